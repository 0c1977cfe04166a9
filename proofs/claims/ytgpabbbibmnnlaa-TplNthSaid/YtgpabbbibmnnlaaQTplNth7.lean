/-
  PARTS OF A PROOF, joined by a program (7 of 8): a proved reckoner of the model, and what the functions come to.
-/
import Derived.Test.YtgpabbbibmnnlaaQTplNth6
set_option linter.unusedVariables false
set_option linter.unusedSimpArgs false
namespace Go.Proofs.Ytgpabbbibmnnlaa
set_option linter.unusedVariables false
set_option linter.unusedSimpArgs false
open Go.Den
noncomputable section
theorem wvnb {w : St → List St} {mn mx : Int} {k : Nat} {n : Int} {x : St} : ∀ (l : List St) (b : List Turn × List St), b.2 ≠ [] → (wmu w mn mx k n x l b).2 ≠ [] := by
  intro l
  induction l with
  | nil => intro b hb; exact hb
  | cons y l ih =>
    intro b hb
    rw [wrl]
    refine ih _ ?_
    split
    · exact on_ne _ _ _ _ hb
    · exact hb
theorem wwgb {len : Nat} {a : Int} {w : St → List St} {mn mx : Int} (hw : ∀ x, GdS len x → RwS len x.1 (w x)) {k : Nat} {n : Int} {x : St} : ∀ (l : List St) (b : List Turn × List St), (∀ y ∈ l, GdS len y ∧ a ≤ y.1) → RwS len a b.2 → RwS len a (wmu w mn mx k n x l b).2 := by
  intro l
  induction l with
  | nil => intro b _ hb; exact hb
  | cons y l ih =>
    intro b hl hb
    rw [wrl]
    have hy := hl y (List.mem_cons_self ..)
    refine ih _ (fun z hz => hl z (List.mem_cons_of_mem _ hz)) ?_
    split
    · exact wugb (fun y hy _ => hw y hy) _ _ _ _ hy.1 hy.2 hb
    · exact hb
section
variable (s : List UInt8) (bol : Bool) (mn mx nn : Int) (set : BitVec 256) (kids : List Rx)
abbrev feN (met : List Turn) (x : St) : List ABlk := [repB s bol mn mx nn set kids, X [.slice none 0 0, .map (some 3)] 178 0 false, .map (setK trC met), .map [], X (stC x) 87 0 true]
abbrev feE (met : List Turn) (out : List St) (x : St) : List ABlk := [repB s bol mn mx nn set kids, X [FO 5 out.length (stsC out), .map (some 3)] 178 0 false, .map (setK trC met), .map (setK stC out), X (stC x) 87 0 true, .tok out.length 87 9]
def reO (p : List Turn × List St) : List ABlk := if p.2 = [] then reN s bol mn mx nn set kids p.1 else reE s bol mn mx nn set kids p.1 p.2
def feO (p : List Turn × List St) (x : St) : List ABlk := if p.2 = [] then feN s bol mn mx nn set kids p.1 x else feE s bol mn mx nn set kids p.1 p.2 x
def OnN (w : St → List St) (a : Int) (k : Nat) : Prop := ∀ (n : Int) (x : St) (met : List Turn), 0 ≤ n → n + k ≤ 1000 → GdS s.length x → a ≤ x.1 → muF mn mx s.length n x < k →
  lim Try.prog cfg (.call 105 [.pointer (some ⟨0, 0, none⟩), .int .i64 n, .agg ⟨stC x⟩]) (HP (reN s bol mn mx nn set kids met)) = some (.val (.tuple ⟨[]⟩), HP (reO s bol mn mx nn set kids (onF w mn mx k n x (met, []))))
theorem wzcc {mn mx : Int} {len : Nat} {n : Int} {x y : St} {k : Nat} (hx : GdS len x) (hy : GdS len y) (hxy : x.1 ≤ y.1) (hnm : mx < 0 ∨ n < mx) (hc : y.1 ≠ x.1 ∨ n < mn) (hmu : muF mn mx len n x < k + 1) : muF mn mx len (n + 1) y < k := by
  have h1 := hy.hi
  have h2 := hx.hi
  unfold muF at hmu ⊢
  split at hmu
  · rw [if_pos (by omega)]; omega
  · rw [if_neg (by omega)]; omega
set_option maxHeartbeats 4000000 in
theorem on_loopE (hs : s.length ≤ 12) (hmn : 0 ≤ mn ∧ mn ≤ 20) (hmx : mx ≤ 20) (w : St → List St) (a : Int) (hk : ∀ y, GdS s.length y → RwS s.length y.1 (w y)) (k : Nat) (IH : OnC s bol mn mx nn set kids w a k) (n : Int) (hn : 0 ≤ n ∧ n + k < 1000) (hnm : mx < 0 ∨ n < mx) (x : St) (hx : GdS s.length x) (hxa : a ≤ x.1) (hmu : muF mn mx s.length n x < k + 1) (l : List St) (hll : l.length ≤ 16000000) (hl : ∀ y ∈ l, GdS s.length y ∧ x.1 ≤ y.1) :
    ∀ (j i : Nat) (met : List Turn) (out : List St), i + j = l.length → out ≠ [] → RwS s.length a out →
    lim Try.prog cfg (.loop 105 4 (wrd 0) (SE (EJ 92 G0) [(54, .int .i64 i), (53, .int .i64 l.length), (52, FL l.length (stsC l)), (5, .pointer (some ⟨4, 0, none⟩)), (1, .int .i64 n), (0, .pointer (some ⟨0, 0, none⟩))])) (HP (feE s bol mn mx nn set kids met out x)) = some (.code (.exit 0) (SE (EJ 92 G0) [(5, .pointer (some ⟨4, 0, none⟩)), (1, .int .i64 n), (0, .pointer (some ⟨0, 0, none⟩))]), HP (feE s bol mn mx nn set kids (wmu w mn mx k n x (l.drop i) (met, out)).1 (wmu w mn mx k n x (l.drop i) (met, out)).2 x)) := by
  intro j
  induction j with
  | zero =>
    intro i met out hi ho hr
    rw [List.drop_of_length_le (by omega)]
    refine wbb wtc ?_
    unfold wvc
    clear IH hk hl
    (repeat' (first | (simp -implicitDefEqProofs (maxSteps := 2000000) (disch := first | with_reducible assumption | omega | (simp only [zS, zA, seval, wy, zD] <;> omega) | fail) only [zS, argl, insA, Go.Den.wm, wo, wu, looks, wcb, wab, idOf, riA, seval, Go.Den.wh, kK, wz, wy, *, zT]) | (with_reducible (first | apply z1 | apply z2 | apply z3 | apply z4) <;> intro hq <;> (try simp only [zH] at hq) <;> (try (exfalso; omega)))))
    all_goals rfl
  | succ j ih =>
    intro i met out hi ho hr
    rw [wjg l (by omega), wrl]
    have hy := hl (l.getD i St.zero) (by rw [List.getD_eq_getElem?_getD, List.getElem?_eq_getElem (by omega)]; exact List.getElem_mem _)
    refine wbb wtc ?_
    unfold wvc
    by_cases hc : (l.getD i St.zero).1 ≠ x.1 ∨ n < mn
    · have h1 := IH (n + 1) (l.getD i St.zero) met out (by omega) (by omega) hy.1 (by omega) (wzcc hx hy.1 hy.2 hnm hc hmu) ho hr
      have h2 := ih (i + 1) (onF w mn mx k (n + 1) (l.getD i St.zero) (met, out)).1 (onF w mn mx k (n + 1) (l.getD i St.zero) (met, out)).2 (by omega) (on_ne _ _ _ _ ho) (wugb (fun y hy _ => hk y hy) _ _ _ _ hy.1 (by omega) hr)
      rw [if_pos hc]
      clear IH ih hk
      by_cases hc1 : (l.getD i St.zero).1 = x.1
      · have hc2 : n < mn := by omega
        (repeat' (first | (simp -implicitDefEqProofs (maxSteps := 2000000) (disch := first | with_reducible assumption | omega | (simp only [zS, zA, seval, wy, zD] <;> omega) | fail) only [zS, argl, insA, Go.Den.wm, wo, wu, looks, wcb, wab, idOf, riA, seval, Go.Den.wh, kK, wz, wy, wfb, wmb, *, zT]) | (with_reducible (first | apply z1 | apply z2 | apply z3 | apply z4) <;> intro hq <;> (try simp only [zH] at hq) <;> (try (exfalso; omega)))))
        exact h2
      · (repeat' (first | (simp -implicitDefEqProofs (maxSteps := 2000000) (disch := first | with_reducible assumption | omega | (simp only [zS, zA, seval, wy, zD] <;> omega) | fail) only [zS, argl, insA, Go.Den.wm, wo, wu, looks, wcb, wab, idOf, riA, seval, Go.Den.wh, kK, wz, wy, wfb, wmb, *, zT]) | (with_reducible (first | apply z1 | apply z2 | apply z3 | apply z4) <;> intro hq <;> (try simp only [zH] at hq) <;> (try (exfalso; omega)))))
        exact h2
    · have h2 := ih (i + 1) met out (by omega) ho hr
      rw [if_neg hc]
      have hc1 : (l.getD i St.zero).1 = x.1 := by omega
      have hc2 : ¬ n < mn := by omega
      clear IH ih hk
      (repeat' (first | (simp -implicitDefEqProofs (maxSteps := 2000000) (disch := first | with_reducible assumption | omega | (simp only [zS, zA, seval, wy, zD] <;> omega) | fail) only [zS, argl, insA, Go.Den.wm, wo, wu, looks, wcb, wab, idOf, riA, seval, Go.Den.wh, kK, wz, wy, wfb, wmb, *, zT]) | (with_reducible (first | apply z1 | apply z2 | apply z3 | apply z4) <;> intro hq <;> (try simp only [zH] at hq) <;> (try (exfalso; omega)))))
      exact h2
set_option maxHeartbeats 4000000 in
theorem on_loopN (hs : s.length ≤ 12) (hmn : 0 ≤ mn ∧ mn ≤ 20) (hmx : mx ≤ 20) (w : St → List St) (a : Int) (hk : ∀ y, GdS s.length y → RwS s.length y.1 (w y)) (k : Nat) (IHC : OnC s bol mn mx nn set kids w a k) (IH : OnN s bol mn mx nn set kids w a k) (n : Int) (hn : 0 ≤ n ∧ n + k < 1000) (hnm : mx < 0 ∨ n < mx) (x : St) (hx : GdS s.length x) (hxa : a ≤ x.1) (hmu : muF mn mx s.length n x < k + 1) (l : List St) (hll : l.length ≤ 16000000) (hl : ∀ y ∈ l, GdS s.length y ∧ x.1 ≤ y.1) :
    ∀ (j i : Nat) (met : List Turn), i + j = l.length →
    lim Try.prog cfg (.loop 105 4 (wrd 0) (SE (EJ 92 G0) [(54, .int .i64 i), (53, .int .i64 l.length), (52, FL l.length (stsC l)), (5, .pointer (some ⟨4, 0, none⟩)), (1, .int .i64 n), (0, .pointer (some ⟨0, 0, none⟩))])) (HP (feN s bol mn mx nn set kids met x)) = some (.code (.exit 0) (SE (EJ 92 G0) [(5, .pointer (some ⟨4, 0, none⟩)), (1, .int .i64 n), (0, .pointer (some ⟨0, 0, none⟩))]), HP (feO s bol mn mx nn set kids (wmu w mn mx k n x (l.drop i) (met, [])) x)) := by
  intro j
  induction j with
  | zero =>
    intro i met hi
    rw [List.drop_of_length_le (by omega)]
    refine wbb wtc ?_
    unfold wvc
    clear IH IHC hk hl
    (repeat' (first | (simp -implicitDefEqProofs (maxSteps := 2000000) (disch := first | with_reducible assumption | omega | (simp only [zS, zA, seval, wy, zD] <;> omega) | fail) only [zS, argl, insA, Go.Den.wm, wo, wu, looks, wcb, wab, idOf, riA, seval, Go.Den.wh, kK, wz, wy, *, zT]) | (with_reducible (first | apply z1 | apply z2 | apply z3 | apply z4) <;> intro hq <;> (try simp only [zH] at hq) <;> (try (exfalso; omega)))))
    all_goals rfl
  | succ j ih =>
    intro i met hi
    rw [wjg l (by omega), wrl]
    have hy := hl (l.getD i St.zero) (by rw [List.getD_eq_getElem?_getD, List.getElem?_eq_getElem (by omega)]; exact List.getElem_mem _)
    refine wbb wtc ?_
    unfold wvc
    by_cases hc : (l.getD i St.zero).1 ≠ x.1 ∨ n < mn
    · have h1 := IH (n + 1) (l.getD i St.zero) met (by omega) (by omega) hy.1 (by omega) (wzcc hx hy.1 hy.2 hnm hc hmu)
      rw [if_pos hc]
      have hr := wugb (a0 := a) (mn := mn) (mx := mx) (fun y hy _ => hk y hy) k (n + 1) (l.getD i St.zero) (met, []) hy.1 (by omega) .nil
      rcases hq : onF w mn mx k (n + 1) (l.getD i St.zero) (met, []) with ⟨met2, out2⟩
      rw [hq] at h1 hr
      unfold reO at h1
      by_cases ho : out2 = []
      · subst ho
        rw [if_pos rfl] at h1
        have h2 := ih (i + 1) met2 (by omega)
        clear IH IHC ih hk
        by_cases hc1 : (l.getD i St.zero).1 = x.1
        · have hc2 : n < mn := by omega
          (repeat' (first | (simp -implicitDefEqProofs (maxSteps := 2000000) (disch := first | with_reducible assumption | omega | (simp only [zS, zA, seval, wy, zD] <;> omega) | fail) only [zS, argl, insA, Go.Den.wm, wo, wu, looks, wcb, wab, idOf, riA, seval, Go.Den.wh, kK, wz, wy, wfb, wmb, *, zT]) | (with_reducible (first | apply z1 | apply z2 | apply z3 | apply z4) <;> intro hq <;> (try simp only [zH] at hq) <;> (try (exfalso; omega)))))
          exact h2
        · (repeat' (first | (simp -implicitDefEqProofs (maxSteps := 2000000) (disch := first | with_reducible assumption | omega | (simp only [zS, zA, seval, wy, zD] <;> omega) | fail) only [zS, argl, insA, Go.Den.wm, wo, wu, looks, wcb, wab, idOf, riA, seval, Go.Den.wh, kK, wz, wy, wfb, wmb, *, zT]) | (with_reducible (first | apply z1 | apply z2 | apply z3 | apply z4) <;> intro hq <;> (try simp only [zH] at hq) <;> (try (exfalso; omega)))))
          exact h2
      · rw [if_neg ho] at h1
        have h2 := on_loopE s bol mn mx nn set kids hs hmn hmx w a hk k IHC n hn hnm x hx hxa hmu l hll hl j (i + 1) met2 out2 (by omega) ho hr
        rw [feO, if_neg (wvnb _ _ ho)]
        clear IH IHC ih hk
        by_cases hc1 : (l.getD i St.zero).1 = x.1
        · have hc2 : n < mn := by omega
          (repeat' (first | (simp -implicitDefEqProofs (maxSteps := 2000000) (disch := first | with_reducible assumption | omega | (simp only [zS, zA, seval, wy, zD] <;> omega) | fail) only [zS, argl, insA, Go.Den.wm, wo, wu, looks, wcb, wab, idOf, riA, seval, Go.Den.wh, kK, wz, wy, wfb, wmb, *, zT]) | (with_reducible (first | apply z1 | apply z2 | apply z3 | apply z4) <;> intro hq <;> (try simp only [zH] at hq) <;> (try (exfalso; omega)))))
          exact h2
        · (repeat' (first | (simp -implicitDefEqProofs (maxSteps := 2000000) (disch := first | with_reducible assumption | omega | (simp only [zS, zA, seval, wy, zD] <;> omega) | fail) only [zS, argl, insA, Go.Den.wm, wo, wu, looks, wcb, wab, idOf, riA, seval, Go.Den.wh, kK, wz, wy, wfb, wmb, *, zT]) | (with_reducible (first | apply z1 | apply z2 | apply z3 | apply z4) <;> intro hq <;> (try simp only [zH] at hq) <;> (try (exfalso; omega)))))
          exact h2
    · have h2 := ih (i + 1) met (by omega)
      rw [if_neg hc]
      have hc1 : (l.getD i St.zero).1 = x.1 := by omega
      have hc2 : ¬ n < mn := by omega
      clear IH IHC ih hk
      (repeat' (first | (simp -implicitDefEqProofs (maxSteps := 2000000) (disch := first | with_reducible assumption | omega | (simp only [zS, zA, seval, wy, zD] <;> omega) | fail) only [zS, argl, insA, Go.Den.wm, wo, wu, looks, wcb, wab, idOf, riA, seval, Go.Den.wh, kK, wz, wy, wfb, wmb, *, zT]) | (with_reducible (first | apply z1 | apply z2 | apply z3 | apply z4) <;> intro hq <;> (try simp only [zH] at hq) <;> (try (exfalso; omega)))))
      exact h2
end
end
end Go.Proofs.Ytgpabbbibmnnlaa
namespace Go.Proofs.Ytgpabbbibmnnlaa
set_option linter.unusedVariables false
set_option linter.unusedSimpArgs false
open Go.Den
noncomputable section
section
variable (s : List UInt8) (bol : Bool) (mn mx nn : Int) (set : BitVec 256) (kids : List Rx)
theorem wadc {w : St → List St} {mn mx : Int} {k : Nat} {n : Int} {x : St} {a : List Turn × List St} (h : keyF mn mx n x ∈ a.1) : onF w mn mx (k + 1) n x a = a := by
  rw [onF, if_pos h]
theorem wzcb {w : St → List St} {mn mx : Int} {k : Nat} {n : Int} {x : St} {met : List Turn} {out : List St} (h : keyF mn mx n x ∉ met) (b : List Turn × List St) (hb : b = if mx < 0 ∨ n < mx then wmu w mn mx k n x (w x) (met ++ [keyF mn mx n x], out) else (met ++ [keyF mn mx n x], out)) :
    onF w mn mx (k + 1) n x (met, out) = if n ≥ mn then (b.1, addF b.2 [x]) else b := by
  rw [onF, if_neg h, hb]
  rfl
set_option maxHeartbeats 4000000 in
theorem ev_on_C (hs : s.length ≤ 12) (hmn : 0 ≤ mn ∧ mn ≤ 20) (hmx : mx ≤ 20) (w : St → List St) (a : Int) (hk : KidOk s bol kids w) (k : Nat) (IH : OnC s bol mn mx nn set kids w a k) : OnC s bol mn mx nn set kids w a (k + 1) := by
  intro n x met out hn hn2 hx hxa hmu ho hr
  obtain ⟨kid, k1, k2, k3⟩ := hk
  have hw := fun y hy => (k3 y hy).1
  have ⟨r1, r2⟩ := k3 x hx
  have r3 := row_len r1 hs
  have key := ev_key_C s bol mn mx nn set kids
  refine wnb hc whj (Nat.le_of_ble_eq_true rfl) (Nat.le_of_ble_eq_true rfl) ?_
  unfold wbi
  by_cases hm : keyF mn mx n x ∈ met
  · rw [wadc hm]
    clear IH k3 hw r1 r2
    (repeat' (first | (simp -implicitDefEqProofs (maxSteps := 2000000) (disch := first | with_reducible assumption | omega | (simp only [zS, zA, seval, wy, wdf, wfb, wmb, zD] <;> omega) | fail) only [zS, argl, insA, Go.Den.wm, wo, wu, looks, wcb, wab, idOf, riA, seval, Go.Den.wh, kK, wy, wfb, wmb, wdd wrg, wpf, wdf, *, zT]) | (with_reducible (first | apply z1 | apply z2 | apply z3 | apply z4) <;> intro hq <;> (try simp only [zH] at hq) <;> (try (exfalso; omega))) | (with_reducible apply z5; (case hl => (repeat (first | exact .nil | with_reducible apply z6 | with_reducible apply z7))); (case h => kernel_rfl))))
  · by_cases hnm : mx < 0 ∨ n < mx
    · have hb := wzcb (w := w) (k := k) (out := out) hm _ rfl
      rw [if_pos hnm] at hb
      have hl := on_loopC s bol mn mx nn set kids hs hmn hmx w a hw k IH n ⟨hn, by omega⟩ hnm x hx hxa hmu (w x) (by omega) r1.good (w x).length 0 (met ++ [keyF mn mx n x]) out (by omega) ho hr
      rw [List.drop_zero, show ((0 : Nat) : Int) = 0 from rfl] at hl
      simp only [List.cons_append, List.nil_append] at hl
      have hbr := wwgb (a := a) (mn := mn) (mx := mx) hw (k := k) (n := n) (x := x) (w x) (met ++ [keyF mn mx n x], out) (fun y hy => ⟨(r1.good y hy).1, by have := (r1.good y hy).2; omega⟩) hr
      have hbn := wvnb (w := w) (mn := mn) (mx := mx) (k := k) (n := n) (x := x) (w x) (met ++ [keyF mn mx n x], out) ho
      generalize wmu w mn mx k n x (w x) (met ++ [keyF mn mx n x], out) = b at hb hl hbr hbn
      obtain ⟨bm, bo⟩ := b
      simp only at hb hl hbr hbn
      rw [hb]
      have hadd := wnp bo [x] hbn (by simp) (by have := row_len (hbr.add (xs := [x]) (fun y hy => by rw [List.mem_singleton] at hy; subst hy; exact ⟨hx, hxa⟩)) hs; omega)
      rw [wtf, show [x].length = 1 from rfl] at hadd
      clear IH k3 hw r1 hb hbr
      by_cases hge : n ≥ mn
      · rw [if_pos hge]
        by_cases hmx0 : mx < 0
        · (repeat' (first | (simp -implicitDefEqProofs (maxSteps := 2000000) (disch := first | with_reducible assumption | omega | (simp only [zS, zA, seval, wy, wdf, wfb, wmb, zD] <;> omega) | fail) only [zS, argl, insA, Go.Den.wm, wo, wu, looks, wcb, wab, idOf, riA, seval, Go.Den.wh, kK, wz, wy, wfb, wmb, wdd wrg, wze wrg, wpf, wdf, *, zT]) | (with_reducible (first | apply z1 | apply z2 | apply z3 | apply z4) <;> intro hq <;> (try simp only [zH] at hq) <;> (try (exfalso; omega))) | (with_reducible apply z5; (case hl => (repeat (first | exact .nil | with_reducible apply z6 | with_reducible apply z7))); (case h => kernel_rfl))))
        · have hnm2 : n < mx := by omega
          (repeat' (first | (simp -implicitDefEqProofs (maxSteps := 2000000) (disch := first | with_reducible assumption | omega | (simp only [zS, zA, seval, wy, wdf, wfb, wmb, zD] <;> omega) | fail) only [zS, argl, insA, Go.Den.wm, wo, wu, looks, wcb, wab, idOf, riA, seval, Go.Den.wh, kK, wz, wy, wfb, wmb, wdd wrg, wze wrg, wpf, wdf, *, zT]) | (with_reducible (first | apply z1 | apply z2 | apply z3 | apply z4) <;> intro hq <;> (try simp only [zH] at hq) <;> (try (exfalso; omega))) | (with_reducible apply z5; (case hl => (repeat (first | exact .nil | with_reducible apply z6 | with_reducible apply z7))); (case h => kernel_rfl))))
      · rw [if_neg hge]
        by_cases hmx0 : mx < 0
        · (repeat' (first | (simp -implicitDefEqProofs (maxSteps := 2000000) (disch := first | with_reducible assumption | omega | (simp only [zS, zA, seval, wy, wdf, wfb, wmb, zD] <;> omega) | fail) only [zS, argl, insA, Go.Den.wm, wo, wu, looks, wcb, wab, idOf, riA, seval, Go.Den.wh, kK, wz, wy, wfb, wmb, wdd wrg, wze wrg, wpf, wdf, *, zT]) | (with_reducible (first | apply z1 | apply z2 | apply z3 | apply z4) <;> intro hq <;> (try simp only [zH] at hq) <;> (try (exfalso; omega))) | (with_reducible apply z5; (case hl => (repeat (first | exact .nil | with_reducible apply z6 | with_reducible apply z7))); (case h => kernel_rfl))))
        · have hnm2 : n < mx := by omega
          (repeat' (first | (simp -implicitDefEqProofs (maxSteps := 2000000) (disch := first | with_reducible assumption | omega | (simp only [zS, zA, seval, wy, wdf, wfb, wmb, zD] <;> omega) | fail) only [zS, argl, insA, Go.Den.wm, wo, wu, looks, wcb, wab, idOf, riA, seval, Go.Den.wh, kK, wz, wy, wfb, wmb, wdd wrg, wze wrg, wpf, wdf, *, zT]) | (with_reducible (first | apply z1 | apply z2 | apply z3 | apply z4) <;> intro hq <;> (try simp only [zH] at hq) <;> (try (exfalso; omega))) | (with_reducible apply z5; (case hl => (repeat (first | exact .nil | with_reducible apply z6 | with_reducible apply z7))); (case h => kernel_rfl))))
    · have hb := wzcb (w := w) (k := k) (out := out) hm _ rfl
      rw [if_neg hnm] at hb
      simp only at hb
      rw [hb]
      have hmx0 : ¬ mx < 0 := fun h => hnm (.inl h)
      have hnm2 : ¬ n < mx := fun h => hnm (.inr h)
      have hadd := wnp out [x] ho (by simp) (by have := row_len (hr.add (xs := [x]) (fun y hy => by rw [List.mem_singleton] at hy; subst hy; exact ⟨hx, hxa⟩)) hs; omega)
      rw [wtf, show [x].length = 1 from rfl] at hadd
      clear IH k3 hw r1 r2 hb hnm
      by_cases hge : n ≥ mn
      · rw [if_pos hge]
        (repeat' (first | (simp -implicitDefEqProofs (maxSteps := 2000000) (disch := first | with_reducible assumption | omega | (simp only [zS, zA, seval, wy, wdf, wfb, wmb, zD] <;> omega) | fail) only [zS, argl, insA, Go.Den.wm, wo, wu, looks, wcb, wab, idOf, riA, seval, Go.Den.wh, kK, wz, wy, wfb, wmb, wdd wrg, wze wrg, wpf, wdf, *, zT]) | (with_reducible (first | apply z1 | apply z2 | apply z3 | apply z4) <;> intro hq <;> (try simp only [zH] at hq) <;> (try (exfalso; omega))) | (with_reducible apply z5; (case hl => (repeat (first | exact .nil | with_reducible apply z6 | with_reducible apply z7))); (case h => kernel_rfl))))
      · rw [if_neg hge]
        (repeat' (first | (simp -implicitDefEqProofs (maxSteps := 2000000) (disch := first | with_reducible assumption | omega | (simp only [zS, zA, seval, wy, wdf, wfb, wmb, zD] <;> omega) | fail) only [zS, argl, insA, Go.Den.wm, wo, wu, looks, wcb, wab, idOf, riA, seval, Go.Den.wh, kK, wz, wy, wfb, wmb, wdd wrg, wze wrg, wpf, wdf, *, zT]) | (with_reducible (first | apply z1 | apply z2 | apply z3 | apply z4) <;> intro hq <;> (try simp only [zH] at hq) <;> (try (exfalso; omega))) | (with_reducible apply z5; (case hl => (repeat (first | exact .nil | with_reducible apply z6 | with_reducible apply z7))); (case h => kernel_rfl))))
end
end
end Go.Proofs.Ytgpabbbibmnnlaa
namespace Go.Proofs.Ytgpabbbibmnnlaa
set_option linter.unusedVariables false
set_option linter.unusedSimpArgs false
open Go.Den
noncomputable section
section
variable (s : List UInt8) (bol : Bool) (mn mx nn : Int) (set : BitVec 256) (kids : List Rx)
set_option maxHeartbeats 4000000 in
theorem ev_on_N (hs : s.length ≤ 12) (hmn : 0 ≤ mn ∧ mn ≤ 20) (hmx : mx ≤ 20) (w : St → List St) (a : Int) (hk : KidOk s bol kids w) (k : Nat) (IHC : OnC s bol mn mx nn set kids w a k) (IH : OnN s bol mn mx nn set kids w a k) : OnN s bol mn mx nn set kids w a (k + 1) := by
  intro n x met hn hn2 hx hxa hmu
  obtain ⟨kid, k1, k2, k3⟩ := hk
  have hw := fun y hy => (k3 y hy).1
  have ⟨r1, r2⟩ := k3 x hx
  have r3 := row_len r1 hs
  have key := ev_key_N s bol mn mx nn set kids
  refine wnb hc whj (Nat.le_of_ble_eq_true rfl) (Nat.le_of_ble_eq_true rfl) ?_
  unfold wbi
  by_cases hm : keyF mn mx n x ∈ met
  · rw [wadc hm, reO, if_pos rfl]
    clear IH IHC k3 hw r1 r2
    (repeat' (first | (simp -implicitDefEqProofs (maxSteps := 2000000) (disch := first | with_reducible assumption | omega | (simp only [zS, zA, seval, wy, wdf, wfb, wmb, zD] <;> omega) | fail) only [zS, argl, insA, Go.Den.wm, wo, wu, looks, wcb, wab, idOf, riA, seval, Go.Den.wh, kK, wy, wfb, wmb, wdd wrg, wpf, wdf, *, zT]) | (with_reducible (first | apply z1 | apply z2 | apply z3 | apply z4) <;> intro hq <;> (try simp only [zH] at hq) <;> (try (exfalso; omega))) | (with_reducible apply z5; (case hl => (repeat (first | exact .nil | with_reducible apply z6 | with_reducible apply z7))); (case h => kernel_rfl))))
  · by_cases hnm : mx < 0 ∨ n < mx
    · have hb := wzcb (w := w) (k := k) (out := []) hm _ rfl
      rw [if_pos hnm] at hb
      have hl := on_loopN s bol mn mx nn set kids hs hmn hmx w a hw k IHC IH n ⟨hn, by omega⟩ hnm x hx hxa hmu (w x) (by omega) r1.good (w x).length 0 (met ++ [keyF mn mx n x]) (by omega)
      rw [List.drop_zero, show ((0 : Nat) : Int) = 0 from rfl] at hl
      have hbr := wwgb (a := a) (mn := mn) (mx := mx) hw (k := k) (n := n) (x := x) (w x) (met ++ [keyF mn mx n x], []) (fun y hy => ⟨(r1.good y hy).1, by have := (r1.good y hy).2; omega⟩) .nil
      generalize wmu w mn mx k n x (w x) (met ++ [keyF mn mx n x], []) = b at hb hl hbr
      obtain ⟨bm, bo⟩ := b
      simp only at hb hbr
      rw [hb]
      have hlen : (addF bo [x]).length ≤ 16000000 := by have := row_len (hbr.add (xs := [x]) (fun y hy => by rw [List.mem_singleton] at hy; subst hy; exact ⟨hx, hxa⟩)) hs; omega
      clear IH IHC k3 hw r1 hb hbr
      unfold feO at hl
      by_cases hbo : bo = []
      · subst hbo
        rw [if_pos rfl] at hl
        have hadd := wrs [x] (by simp) (by simp) hlen
        rw [wtf, show [x].length = 1 from rfl] at hadd
        by_cases hge : n ≥ mn
        · rw [if_pos hge, reO, if_neg (wnh (.inr (by simp)))]
          by_cases hmx0 : mx < 0
          · (repeat' (first | (simp -implicitDefEqProofs (maxSteps := 2000000) (disch := first | with_reducible assumption | omega | (simp only [zS, zA, seval, wy, wdf, wfb, wmb, zD] <;> omega) | fail) only [zS, argl, insA, Go.Den.wm, wo, wu, looks, wcb, wab, idOf, riA, seval, Go.Den.wh, kK, wz, wy, wfb, wmb, wdd wrg, wze wrg, wpf, wdf, *, zT]) | (with_reducible (first | apply z1 | apply z2 | apply z3 | apply z4) <;> intro hq <;> (try simp only [zH] at hq) <;> (try (exfalso; omega))) | (with_reducible apply z5; (case hl => (repeat (first | exact .nil | with_reducible apply z6 | with_reducible apply z7))); (case h => kernel_rfl))))
          · have hnm2 : n < mx := by omega
            (repeat' (first | (simp -implicitDefEqProofs (maxSteps := 2000000) (disch := first | with_reducible assumption | omega | (simp only [zS, zA, seval, wy, wdf, wfb, wmb, zD] <;> omega) | fail) only [zS, argl, insA, Go.Den.wm, wo, wu, looks, wcb, wab, idOf, riA, seval, Go.Den.wh, kK, wz, wy, wfb, wmb, wdd wrg, wze wrg, wpf, wdf, *, zT]) | (with_reducible (first | apply z1 | apply z2 | apply z3 | apply z4) <;> intro hq <;> (try simp only [zH] at hq) <;> (try (exfalso; omega))) | (with_reducible apply z5; (case hl => (repeat (first | exact .nil | with_reducible apply z6 | with_reducible apply z7))); (case h => kernel_rfl))))
        · rw [if_neg hge, reO, if_pos rfl]
          by_cases hmx0 : mx < 0
          · (repeat' (first | (simp -implicitDefEqProofs (maxSteps := 2000000) (disch := first | with_reducible assumption | omega | (simp only [zS, zA, seval, wy, wdf, wfb, wmb, zD] <;> omega) | fail) only [zS, argl, insA, Go.Den.wm, wo, wu, looks, wcb, wab, idOf, riA, seval, Go.Den.wh, kK, wz, wy, wfb, wmb, wdd wrg, wze wrg, wpf, wdf, *, zT]) | (with_reducible (first | apply z1 | apply z2 | apply z3 | apply z4) <;> intro hq <;> (try simp only [zH] at hq) <;> (try (exfalso; omega))) | (with_reducible apply z5; (case hl => (repeat (first | exact .nil | with_reducible apply z6 | with_reducible apply z7))); (case h => kernel_rfl))))
          · have hnm2 : n < mx := by omega
            (repeat' (first | (simp -implicitDefEqProofs (maxSteps := 2000000) (disch := first | with_reducible assumption | omega | (simp only [zS, zA, seval, wy, wdf, wfb, wmb, zD] <;> omega) | fail) only [zS, argl, insA, Go.Den.wm, wo, wu, looks, wcb, wab, idOf, riA, seval, Go.Den.wh, kK, wz, wy, wfb, wmb, wdd wrg, wze wrg, wpf, wdf, *, zT]) | (with_reducible (first | apply z1 | apply z2 | apply z3 | apply z4) <;> intro hq <;> (try simp only [zH] at hq) <;> (try (exfalso; omega))) | (with_reducible apply z5; (case hl => (repeat (first | exact .nil | with_reducible apply z6 | with_reducible apply z7))); (case h => kernel_rfl))))
      · rw [if_neg hbo] at hl
        have hadd := wnp bo [x] hbo (by simp) hlen
        rw [wtf, show [x].length = 1 from rfl] at hadd
        by_cases hge : n ≥ mn
        · rw [if_pos hge, reO, if_neg (wnh (.inr (by simp)))]
          by_cases hmx0 : mx < 0
          · (repeat' (first | (simp -implicitDefEqProofs (maxSteps := 2000000) (disch := first | with_reducible assumption | omega | (simp only [zS, zA, seval, wy, wdf, wfb, wmb, zD] <;> omega) | fail) only [zS, argl, insA, Go.Den.wm, wo, wu, looks, wcb, wab, idOf, riA, seval, Go.Den.wh, kK, wz, wy, wfb, wmb, wdd wrg, wze wrg, wpf, wdf, *, zT]) | (with_reducible (first | apply z1 | apply z2 | apply z3 | apply z4) <;> intro hq <;> (try simp only [zH] at hq) <;> (try (exfalso; omega))) | (with_reducible apply z5; (case hl => (repeat (first | exact .nil | with_reducible apply z6 | with_reducible apply z7))); (case h => kernel_rfl))))
          · have hnm2 : n < mx := by omega
            (repeat' (first | (simp -implicitDefEqProofs (maxSteps := 2000000) (disch := first | with_reducible assumption | omega | (simp only [zS, zA, seval, wy, wdf, wfb, wmb, zD] <;> omega) | fail) only [zS, argl, insA, Go.Den.wm, wo, wu, looks, wcb, wab, idOf, riA, seval, Go.Den.wh, kK, wz, wy, wfb, wmb, wdd wrg, wze wrg, wpf, wdf, *, zT]) | (with_reducible (first | apply z1 | apply z2 | apply z3 | apply z4) <;> intro hq <;> (try simp only [zH] at hq) <;> (try (exfalso; omega))) | (with_reducible apply z5; (case hl => (repeat (first | exact .nil | with_reducible apply z6 | with_reducible apply z7))); (case h => kernel_rfl))))
        · rw [if_neg hge, reO, if_neg hbo]
          by_cases hmx0 : mx < 0
          · (repeat' (first | (simp -implicitDefEqProofs (maxSteps := 2000000) (disch := first | with_reducible assumption | omega | (simp only [zS, zA, seval, wy, wdf, wfb, wmb, zD] <;> omega) | fail) only [zS, argl, insA, Go.Den.wm, wo, wu, looks, wcb, wab, idOf, riA, seval, Go.Den.wh, kK, wz, wy, wfb, wmb, wdd wrg, wze wrg, wpf, wdf, *, zT]) | (with_reducible (first | apply z1 | apply z2 | apply z3 | apply z4) <;> intro hq <;> (try simp only [zH] at hq) <;> (try (exfalso; omega))) | (with_reducible apply z5; (case hl => (repeat (first | exact .nil | with_reducible apply z6 | with_reducible apply z7))); (case h => kernel_rfl))))
          · have hnm2 : n < mx := by omega
            (repeat' (first | (simp -implicitDefEqProofs (maxSteps := 2000000) (disch := first | with_reducible assumption | omega | (simp only [zS, zA, seval, wy, wdf, wfb, wmb, zD] <;> omega) | fail) only [zS, argl, insA, Go.Den.wm, wo, wu, looks, wcb, wab, idOf, riA, seval, Go.Den.wh, kK, wz, wy, wfb, wmb, wdd wrg, wze wrg, wpf, wdf, *, zT]) | (with_reducible (first | apply z1 | apply z2 | apply z3 | apply z4) <;> intro hq <;> (try simp only [zH] at hq) <;> (try (exfalso; omega))) | (with_reducible apply z5; (case hl => (repeat (first | exact .nil | with_reducible apply z6 | with_reducible apply z7))); (case h => kernel_rfl))))
    · have hb := wzcb (w := w) (k := k) (out := []) hm _ rfl
      rw [if_neg hnm] at hb
      simp only at hb
      rw [hb]
      have hmx0 : ¬ mx < 0 := fun h => hnm (.inl h)
      have hnm2 : ¬ n < mx := fun h => hnm (.inr h)
      have hadd := wrs [x] (by simp) (by simp) (by have := row_len ((RwS.nil (len := s.length) (a := a)).add (xs := [x]) (fun y hy => by rw [List.mem_singleton] at hy; subst hy; exact ⟨hx, hxa⟩)) hs; omega)
      rw [wtf, show [x].length = 1 from rfl] at hadd
      clear IH IHC k3 hw r1 r2 hb hnm
      by_cases hge : n ≥ mn
      · rw [if_pos hge, reO, if_neg (wnh (.inr (by simp)))]
        (repeat' (first | (simp -implicitDefEqProofs (maxSteps := 2000000) (disch := first | with_reducible assumption | omega | (simp only [zS, zA, seval, wy, wdf, wfb, wmb, zD] <;> omega) | fail) only [zS, argl, insA, Go.Den.wm, wo, wu, looks, wcb, wab, idOf, riA, seval, Go.Den.wh, kK, wz, wy, wfb, wmb, wdd wrg, wze wrg, wpf, wdf, *, zT]) | (with_reducible (first | apply z1 | apply z2 | apply z3 | apply z4) <;> intro hq <;> (try simp only [zH] at hq) <;> (try (exfalso; omega))) | (with_reducible apply z5; (case hl => (repeat (first | exact .nil | with_reducible apply z6 | with_reducible apply z7))); (case h => kernel_rfl))))
      · rw [if_neg hge, reO, if_pos rfl]
        (repeat' (first | (simp -implicitDefEqProofs (maxSteps := 2000000) (disch := first | with_reducible assumption | omega | (simp only [zS, zA, seval, wy, wdf, wfb, wmb, zD] <;> omega) | fail) only [zS, argl, insA, Go.Den.wm, wo, wu, looks, wcb, wab, idOf, riA, seval, Go.Den.wh, kK, wz, wy, wfb, wmb, wdd wrg, wze wrg, wpf, wdf, *, zT]) | (with_reducible (first | apply z1 | apply z2 | apply z3 | apply z4) <;> intro hq <;> (try simp only [zH] at hq) <;> (try (exfalso; omega))) | (with_reducible apply z5; (case hl => (repeat (first | exact .nil | with_reducible apply z6 | with_reducible apply z7))); (case h => kernel_rfl))))
theorem on_all (hs : s.length ≤ 12) (hmn : 0 ≤ mn ∧ mn ≤ 20) (hmx : mx ≤ 20) (w : St → List St) (a : Int) (hk : KidOk s bol kids w) : ∀ k, OnC s bol mn mx nn set kids w a k ∧ OnN s bol mn mx nn set kids w a k := by
  intro k
  induction k with
  | zero => exact ⟨fun n x met out _ _ _ _ h => absurd h (Nat.not_lt_zero _), fun n x met _ _ _ _ h => absurd h (Nat.not_lt_zero _)⟩
  | succ k ih => exact ⟨ev_on_C s bol mn mx nn set kids hs hmn hmx w a hk k ih.1, ev_on_N s bol mn mx nn set kids hs hmn hmx w a hk k ih.1 ih.2⟩
end
end
end Go.Proofs.Ytgpabbbibmnnlaa
namespace Go.Proofs.Ytgpabbbibmnnlaa
set_option linter.unusedVariables false
set_option linter.unusedSimpArgs false
open Go.Den
noncomputable section
section
variable (s : List UInt8) (bol : Bool)
def grpF (n : Int) (x y : St) : St := (y.1, (y.2.put (n.toNat * 2) x.1).put (n.toNat * 2 + 1) y.1)
abbrev gfN (r : Rx) (x : St) : List ABlk := [X (rxC r) 47 0 true, X (stC x) 87 0 true, X [.slice none 0 0, .map (some 3)] 178 0 false, .map []]
abbrev gfC (r : Rx) (x : St) (out : List St) : List ABlk := [X (rxC r) 47 0 true, X (stC x) 87 0 true, X [FO 3 out.length (stsC out), .map (some 4)] 178 0 false, .tok out.length 87 9, .map (setK stC out)]
set_option maxHeartbeats 4000000 in
theorem wbdc (hs : s.length ≤ 12) (r : Rx) (n1 : 1 ≤ r.n) (n3 : r.n ≤ 3) (x : St) (hx : GdS s.length x) (l : List St) (hll : l.length ≤ 16000000) (hl : ∀ y ∈ l, GdS s.length y ∧ x.1 ≤ y.1) :
    ∀ (j i : Nat) (out : List St), i + j = l.length → out ≠ [] → RwS s.length x.1 out →
    lim Try.prog cfg (.loop 75 0 (wub 0) (SE (EJ 158 G0) [(82, .int .i64 i), (81, .int .i64 l.length), (80, FL l.length (stsC l)), (8, .pointer (some ⟨2, 0, none⟩)), (5, .pointer (some ⟨1, 0, none⟩)), (4, .pointer (some ⟨0, 0, none⟩))])) (HP (gfC r x out)) = some (.code (.exit 1) (SE (EJ 158 G0) [(8, .pointer (some ⟨0, 0, none⟩))]), HP (rowC (wss (fun y => [grpF r.n x y]) (l.drop i) out))) := by
  intro j
  induction j with
  | zero =>
    intro i out hi ho hr
    rw [List.drop_of_length_le (by omega)]
    refine wbb wne ?_
    unfold wme
    clear hl
    (repeat' (first | (simp -implicitDefEqProofs (maxSteps := 2000000) (disch := first | with_reducible assumption | omega | (simp only [zS, zA, seval, wy, zD] <;> omega) | fail) only [zS, argl, insA, Go.Den.wm, wo, wu, looks, wcb, wab, idOf, riA, seval, Go.Den.wh, kK, wsd, wy, *, zT]) | (with_reducible (first | apply z1 | apply z2 | apply z3 | apply z4) <;> intro hq <;> (try simp only [zH] at hq) <;> (try (exfalso; omega)))))
    all_goals rfl
  | succ j ih =>
    intro i out hi ho hr
    rw [wjg l (by omega), wot]
    have hy := hl (l.getD i St.zero) (by rw [List.getD_eq_getElem?_getD, List.getElem?_eq_getElem (by omega)]; exact List.getElem_mem _)
    have h3 : RwS s.length x.1 (addF out [grpF r.n x (l.getD i St.zero)]) := hr.add (fun z hz => by rw [List.mem_singleton] at hz; subst hz; exact ⟨hx.group hy.1 hy.2 n1 n3, hy.2⟩)
    have hadd := wnp out [grpF r.n x (l.getD i St.zero)] ho (by simp) (by have := row_len h3 hs; omega)
    have h2 := ih (i + 1) _ (by omega) (wnh (.inl ho)) h3
    rw [wtf, show [grpF r.n x (l.getD i St.zero)].length = 1 from rfl, show stC (grpF r.n x (l.getD i St.zero)) = .int .i64 (l.getD i St.zero).1 :: mtC (((l.getD i St.zero).2.put (r.n.toNat * 2) x.1).put (r.n.toNat * 2 + 1) (l.getD i St.zero).1) from rfl] at hadd
    refine wbb wne ?_
    unfold wme
    clear ih hl h3 hr hy
    (repeat' (first | (simp -implicitDefEqProofs (maxSteps := 2000000) (disch := first | with_reducible assumption | omega | (simp only [zS, zA, seval, wy, wfb, zD] <;> omega) | fail) only [zS, argl, insA, Go.Den.wm, wo, wu, looks, wcb, wab, idOf, riA, seval, Go.Den.wh, kK, wsd, wy, wfb, *, zT]) | (with_reducible (first | apply z1 | apply z2 | apply z3 | apply z4) <;> intro hq <;> (try simp only [zH] at hq) <;> (try (exfalso; omega)))))
    exact h2
set_option maxHeartbeats 4000000 in
theorem wcdc (hs : s.length ≤ 12) (r : Rx) (n1 : 1 ≤ r.n) (n3 : r.n ≤ 3) (x : St) (hx : GdS s.length x) (l : List St) (hll : l.length ≤ 16000000) (hl : ∀ y ∈ l, GdS s.length y ∧ x.1 ≤ y.1) :
    lim Try.prog cfg (.loop 75 0 (wub 0) (SE (EJ 158 G0) [(82, .int .i64 0), (81, .int .i64 l.length), (80, FL l.length (stsC l)), (8, .pointer (some ⟨2, 0, none⟩)), (5, .pointer (some ⟨1, 0, none⟩)), (4, .pointer (some ⟨0, 0, none⟩))])) (HP (gfN r x)) = some (.code (.exit 1) (SE (EJ 158 G0) [(8, .pointer (some ⟨0, 0, none⟩))]), HP (rowO (wss (fun y => [grpF r.n x y]) l []))) := by
  by_cases h0 : l = []
  · subst h0
    clear hl
    refine wbb wne ?_
    unfold wme
    (repeat' (first | (simp -implicitDefEqProofs (maxSteps := 2000000) (disch := first | with_reducible assumption | omega | (simp only [zS, zA, seval, wy, zD] <;> omega) | fail) only [zS, argl, insA, Go.Den.wm, wo, wu, looks, wcb, wab, idOf, riA, seval, Go.Den.wh, kK, wsd, wy, *, zT]) | (with_reducible (first | apply z1 | apply z2 | apply z3 | apply z4) <;> intro hq <;> (try simp only [zH] at hq) <;> (try (exfalso; omega)))))
    all_goals rfl
  · have h00 : 0 < l.length := List.length_pos_iff.2 h0
    have hd := wjg l h00
    rw [List.drop_zero] at hd
    have hy := hl (l.getD 0 St.zero) (by rw [List.getD_eq_getElem?_getD, List.getElem?_eq_getElem (by omega)]; exact List.getElem_mem _)
    have h3 : RwS s.length x.1 (addF [] [grpF r.n x (l.getD 0 St.zero)]) := RwS.nil.add (fun z hz => by rw [List.mem_singleton] at hz; subst hz; exact ⟨hx.group hy.1 hy.2 n1 n3, hy.2⟩)
    have hadd := wrs [grpF r.n x (l.getD 0 St.zero)] (by simp) (by simp) (by have := row_len h3 hs; omega)
    have h2 := wbdc s hs r n1 n3 x hx l hll hl (l.length - 1) 1 (addF [] [grpF r.n x (l.getD 0 St.zero)]) (by omega) (wnh (.inr (by simp))) h3
    have he : wss (fun y => [grpF r.n x y]) l [] = wss (fun y => [grpF r.n x y]) (l.drop 1) (addF [] [grpF r.n x (l.getD 0 St.zero)]) := by
      conv => lhs; rw [hd]
      rfl
    rw [he, rowO, if_neg (wtnb _ _ _ (wnh (.inr (by simp))))]
    rw [wtf, show [grpF r.n x (l.getD 0 St.zero)].length = 1 from rfl, show stC (grpF r.n x (l.getD 0 St.zero)) = .int .i64 (l.getD 0 St.zero).1 :: mtC (((l.getD 0 St.zero).2.put (r.n.toNat * 2) x.1).put (r.n.toNat * 2 + 1) (l.getD 0 St.zero).1) from rfl] at hadd
    have hg := wrcb (l := l) (i := 0) h00
    rw [Nat.zero_mul] at hg
    refine wbb wne ?_
    unfold wme
    clear hl h3 hy he hd
    (repeat' (first | (simp -implicitDefEqProofs (maxSteps := 2000000) (disch := first | with_reducible assumption | omega | (simp only [zS, zA, seval, wy, wfb, zD] <;> omega) | fail) only [zS, argl, insA, Go.Den.wm, wo, wu, looks, wcb, wab, idOf, riA, seval, Go.Den.wh, kK, wsd, wy, wfb, *, zT]) | (with_reducible (first | apply z1 | apply z2 | apply z3 | apply z4) <;> intro hq <;> (try simp only [zH] at hq) <;> (try (exfalso; omega)))))
    exact h2
def wxgb (kids : List Rx) : Prop := ∀ r ∈ kids, ∀ y, GdS s.length y → RwS s.length y.1 (wcf s bol r y) ∧ lim Try.prog cfg (.call 75 [.agg ⟨[str s, .bool bol]⟩, .agg ⟨rxC r⟩, .agg ⟨stC y⟩]) (HP []) = some (.val (FL (wcf s bol r y).length (stsC (wcf s bol r y))), HP [])
theorem wadb (kids : List Rx) {i : Nat} (h : i < kids.length) : kids.drop i = kids.getD i Rx.zero :: kids.drop (i + 1) := by
  rw [List.drop_eq_getElem_cons h, List.getD_eq_getElem?_getD, List.getElem?_eq_getElem h]; rfl
theorem wllb (kids : List Rx) {i : Nat} (h : i < kids.length) : kids.getD i Rx.zero ∈ kids := by
  rw [List.getD_eq_getElem?_getD, List.getElem?_eq_getElem h]; exact List.getElem_mem _
abbrev afN (x : St) : List ABlk := [X [str s, .bool bol] 138 0 true, X (stC x) 87 0 true, X [.slice none 0 0, .map (some 3)] 178 0 false, .map []]
abbrev afC (x : St) (out : List St) : List ABlk := [X [str s, .bool bol] 138 0 true, X (stC x) 87 0 true, X [FO 3 out.length (stsC out), .map (some 4)] 178 0 false, .tok out.length 87 9, .map (setK stC out)]
theorem altF_ne {x : St} : ∀ (l : List Rx) (out : List St), out ≠ [] → altF s bol l x out ≠ [] := by
  intro l
  induction l with
  | nil => intro out h; rw [altF]; exact h
  | cons r l ih => intro out h; rw [altF]; exact ih _ (wnh (.inl h))
set_option maxHeartbeats 4000000 in
theorem wddc (hs : s.length ≤ 12) (x : St) (hx : GdS s.length x) (kids : List Rx) (hll : kids.length ≤ 16000000) (hk : wxgb s bol kids) :
    ∀ (j i : Nat) (out : List St), i + j = kids.length → out ≠ [] → RwS s.length x.1 out →
    lim Try.prog cfg (.loop 75 0 (wub 1) (SE (EJ 158 G0) [(110, .int .i64 i), (109, .int .i64 kids.length), (108, FL kids.length (rxsC kids)), (11, .pointer (some ⟨2, 0, none⟩)), (5, .pointer (some ⟨1, 0, none⟩)), (3, .pointer (some ⟨0, 0, none⟩))])) (HP (afC s bol x out)) = some (.code (.exit 3) (SE (EJ 158 G0) [(11, .pointer (some ⟨0, 0, none⟩))]), HP (rowC (altF s bol (kids.drop i) x out))) := by
  intro j
  induction j with
  | zero =>
    intro i out hi ho hr
    rw [List.drop_of_length_le (by omega), altF]
    refine wbb wnd ?_
    unfold wqd
    clear hk
    (repeat' (first | (simp -implicitDefEqProofs (maxSteps := 2000000) (disch := first | with_reducible assumption | omega | (simp only [zS, zA, seval, wy, zD] <;> omega) | fail) only [zS, argl, insA, Go.Den.wm, wo, wu, looks, wcb, wab, idOf, riA, seval, Go.Den.wh, kK, wfd, wy, *, zT]) | (with_reducible (first | apply z1 | apply z2 | apply z3 | apply z4) <;> intro hq <;> (try simp only [zH] at hq) <;> (try (exfalso; omega)))))
  | succ j ih =>
    intro i out hi ho hr
    rw [wadb kids (by omega), altF]
    have ⟨h1, h4⟩ := hk _ (wllb kids (show i < kids.length by omega)) x hx
    have h3 := hr.add h1.good
    have h5 := row_len h1 hs
    have hadd := wnp out (wcf s bol (kids.getD i Rx.zero) x) ho (by omega) (by have := row_len h3 hs; omega)
    have h2 := ih (i + 1) _ (by omega) (wnh (.inl ho)) h3
    refine wbb wnd ?_
    unfold wqd
    clear ih hk h3 h1 hr
    (repeat' (first | (simp -implicitDefEqProofs (maxSteps := 2000000) (disch := first | with_reducible assumption | omega | (simp only [zS, zA, seval, wy, wfb, zD] <;> omega) | fail) only [zS, argl, insA, Go.Den.wm, wo, wu, looks, wcb, wab, idOf, riA, seval, Go.Den.wh, kK, wfd, wy, wfb, *, zT]) | (with_reducible (first | apply z1 | apply z2 | apply z3 | apply z4) <;> intro hq <;> (try simp only [zH] at hq) <;> (try (exfalso; omega)))))
    exact h2
set_option maxHeartbeats 4000000 in
theorem wedc (hs : s.length ≤ 12) (x : St) (hx : GdS s.length x) (kids : List Rx) (hll : kids.length ≤ 16000000) (hk : wxgb s bol kids) :
    ∀ (j i : Nat), i + j = kids.length →
    lim Try.prog cfg (.loop 75 0 (wub 1) (SE (EJ 158 G0) [(110, .int .i64 i), (109, .int .i64 kids.length), (108, FL kids.length (rxsC kids)), (11, .pointer (some ⟨2, 0, none⟩)), (5, .pointer (some ⟨1, 0, none⟩)), (3, .pointer (some ⟨0, 0, none⟩))])) (HP (afN s bol x)) = some (.code (.exit 3) (SE (EJ 158 G0) [(11, .pointer (some ⟨0, 0, none⟩))]), HP (rowO (altF s bol (kids.drop i) x []))) := by
  intro j
  induction j with
  | zero =>
    intro i hi
    rw [List.drop_of_length_le (by omega), altF]
    refine wbb wnd ?_
    unfold wqd
    clear hk
    (repeat' (first | (simp -implicitDefEqProofs (maxSteps := 2000000) (disch := first | with_reducible assumption | omega | (simp only [zS, zA, seval, wy, zD] <;> omega) | fail) only [zS, argl, insA, Go.Den.wm, wo, wu, looks, wcb, wab, idOf, riA, seval, Go.Den.wh, kK, wfd, wy, *, zT]) | (with_reducible (first | apply z1 | apply z2 | apply z3 | apply z4) <;> intro hq <;> (try simp only [zH] at hq) <;> (try (exfalso; omega)))))
    all_goals rfl
  | succ j ih =>
    intro i hi
    rw [wadb kids (by omega), altF]
    have ⟨h1, h4⟩ := hk _ (wllb kids (show i < kids.length by omega)) x hx
    have h3 := (RwS.nil (len := s.length) (a := x.1)).add h1.good
    have h5 := row_len h1 hs
    by_cases hz : wcf s bol (kids.getD i Rx.zero) x = []
    · have h2 := ih (i + 1) (by omega)
      rw [hz] at h4 ⊢
      rw [List.length_nil, wscb] at h4
      refine wbb wnd ?_
      unfold wqd
      clear ih hk h3 h1 h5 hz
      (repeat' (first | (simp -implicitDefEqProofs (maxSteps := 2000000) (disch := first | with_reducible assumption | omega | (simp only [zS, zA, seval, wy, wfb, zD] <;> omega) | fail) only [zS, argl, insA, Go.Den.wm, wo, wu, looks, wcb, wab, idOf, riA, seval, Go.Den.wh, kK, wfd, wy, wfb, wsnb, *, zT]) | (with_reducible (first | apply z1 | apply z2 | apply z3 | apply z4) <;> intro hq <;> (try simp only [zH] at hq) <;> (try (exfalso; omega)))))
      exact h2
    · have hadd := wrs (wcf s bol (kids.getD i Rx.zero) x) hz (by omega) (by have := row_len h3 hs; omega)
      have h2 := wddc s bol hs x hx kids hll hk j (i + 1) (addF [] (wcf s bol (kids.getD i Rx.zero) x)) (by omega) (wnh (.inr hz)) h3
      rw [rowO, if_neg (altF_ne s bol _ _ (wnh (.inr hz)))]
      refine wbb wnd ?_
      unfold wqd
      clear ih hk h3 h1
      (repeat' (first | (simp -implicitDefEqProofs (maxSteps := 2000000) (disch := first | with_reducible assumption | omega | (simp only [zS, zA, seval, wy, wfb, zD] <;> omega) | fail) only [zS, argl, insA, Go.Den.wm, wo, wu, looks, wcb, wab, idOf, riA, seval, Go.Den.wh, kK, wfd, wy, wfb, *, zT]) | (with_reducible (first | apply z1 | apply z2 | apply z3 | apply z4) <;> intro hq <;> (try simp only [zH] at hq) <;> (try (exfalso; omega)))))
      exact h2
set_option maxHeartbeats 4000000 in
theorem cat_loop (hs : s.length ≤ 12) (a : Int) (kids : List Rx) (hll : kids.length ≤ 16000000) (hk : wxgb s bol kids) :
    ∀ (j i : Nat) (l : List St), i + j = kids.length → RwS s.length a l →
    lim Try.prog cfg (.loop 75 0 (wub 2) (SE (EJ 158 G0) [(130, .int .i64 i), (129, .int .i64 kids.length), (128, FL kids.length (rxsC kids)), (7, FL l.length (stsC l)), (3, .pointer (some ⟨0, 0, none⟩))])) (HP [X [str s, .bool bol] 138 0 true]) = some (.code (.exit 5) (SE (EJ 158 G0) [(7, FL (catF s bol (kids.drop i) l).length (stsC (catF s bol (kids.drop i) l)))]), HP []) := by
  intro j
  induction j with
  | zero =>
    intro i l hi hr
    rw [List.drop_of_length_le (by omega), catF]
    refine wbb wpe ?_
    unfold woe
    clear hk
    (repeat' (first | (simp -implicitDefEqProofs (maxSteps := 2000000) (disch := first | with_reducible assumption | omega | (simp only [zS, zA, seval, wy, zD] <;> omega) | fail) only [zS, argl, insA, Go.Den.wm, wo, wu, looks, wcb, wab, idOf, riA, seval, Go.Den.wh, kK, wtd, wy, *, zT]) | (with_reducible (first | apply z1 | apply z2 | apply z3 | apply z4) <;> intro hq <;> (try simp only [zH] at hq) <;> (try (exfalso; omega)))))
  | succ j ih =>
    intro i l hi hr
    rw [wadb kids (by omega), catF]
    have hw := hk _ (wllb kids (show i < kids.length by omega))
    have hf := wxcc s hs bol (kids.getD i Rx.zero) (fun y => wcf s bol (kids.getD i Rx.zero) y) a l (by have := row_len hr hs; omega) hr.good hw
    have h3 : RwS s.length a (wklb (fun y => wcf s bol (kids.getD i Rx.zero) y) l) := by
      refine RwS.fold _ l (fun z hz y hy => ?_) [] .nil
      have h1 := hr.good z hz
      have h2 := (hw z h1.1).1.good y hy
      exact ⟨h2.1, by omega⟩
    have h2 := ih (i + 1) _ (by omega) h3
    generalize wklb (fun y => wcf s bol (kids.getD i Rx.zero) y) l = l2 at hf h2 ⊢
    refine wbb wpe ?_
    unfold woe
    clear ih hk hw h3
    (repeat' (first | (simp -implicitDefEqProofs (maxSteps := 2000000) (disch := first | with_reducible assumption | omega | (simp only [zS, zA, seval, wy, wfb, zD] <;> omega) | fail) only [zS, argl, insA, Go.Den.wm, wo, wu, looks, wcb, wab, idOf, riA, seval, Go.Den.wh, kK, wtd, wy, wfb, *, zT]) | (with_reducible (first | apply z1 | apply z2 | apply z3 | apply z4) <;> intro hq <;> (try simp only [zH] at hq) <;> (try (exfalso; omega)))))
    exact h2
end
end
end Go.Proofs.Ytgpabbbibmnnlaa
namespace Go.Proofs.Ytgpabbbibmnnlaa
set_option linter.unusedVariables false
set_option linter.unusedSimpArgs false
open Go.Den
noncomputable section
theorem wmlb (n : Int) (x : St) (l : List St) : groupW n x l = wss (fun y => [grpF n x y]) l [] := rfl
section
variable (s : List UInt8) (bol : Bool)
def wfdc (r : Rx) : Prop := ∀ y, GdS s.length y → lim Try.prog cfg (.call 75 [.agg ⟨[str s, .bool bol]⟩, .agg ⟨rxC r⟩, .agg ⟨stC y⟩]) (HP []) = some (.val (FL (wcf s bol r y).length (stsC (wcf s bol r y))), HP [])
set_option maxHeartbeats 8000000 in
theorem wgdc (hs : s.length ≤ 12) (k mn mx n : Int) (set : BitVec 256) (kids : List Rx) (hlen : kids.length ≤ 16000000) (hok : okR (.mk k mn mx n set kids) = true) (ih : wxgb s bol kids) : wfdc s bol (.mk k mn mx n set kids) := by
  intro x hx
  have hlo := hx.lo
  have hhi := hx.hi
  have hrow := wqs (s := s) rfl (bol := bol) _ hok x hx
  refine wnb hc wpq (Nat.le_of_ble_eq_true rfl) (Nat.le_of_ble_eq_true rfl) ?_
  unfold wbn
  rw [wcf] at hrow ⊢
  rw [okR, Bool.and_eq_true] at hok
  have hok1 := hok.1
  clear hok
  by_cases h1 : k = 1
  · rw [if_pos h1]
    subst h1
    clear ih hrow hok1
    by_cases hx1 : x.1 < s.length
    · have hhas := ev_Has set ((s.getD x.1.toNat 0).toNat) (by have := (s.getD x.1.toNat 0).toNat_lt; omega)
      by_cases hb : set.getLsbD (s.getD x.1.toNat 0).toNat = true
      · rw [if_pos ⟨hx1, hb⟩]
        rw [hb] at hhas
        (repeat' (first | (simp -implicitDefEqProofs (maxSteps := 2000000) (disch := first | with_reducible assumption | omega | (simp only [zS, zA, seval, wcu, zD] <;> omega) | fail) only [zS, argl, insA, Go.Den.wm, wo, wu, looks, wcb, wab, idOf, riA, seval, Go.Den.wh, kK, *, zT]) | (with_reducible (first | apply z1 | apply z2 | apply z3 | apply z4) <;> intro hq <;> (try simp only [zH] at hq) <;> (try (exfalso; omega))) | (with_reducible apply z5; (case hl => (repeat (first | exact .nil | with_reducible apply z6 | with_reducible apply z7))); (case h => kernel_rfl))))
      · rw [if_neg (fun h => hb h.2)]
        have hb2 : set.getLsbD (s.getD x.1.toNat 0).toNat = false := by simpa using hb
        rw [hb2] at hhas
        clear hb
        (repeat' (first | (simp -implicitDefEqProofs (maxSteps := 2000000) (disch := first | with_reducible assumption | omega | (simp only [zS, zA, seval, zD] <;> omega) | fail) only [zS, argl, insA, Go.Den.wm, wo, wu, looks, wcb, wab, idOf, riA, seval, Go.Den.wh, kK, *, zT]) | (with_reducible (first | apply z1 | apply z2 | apply z3 | apply z4) <;> intro hq <;> (try simp only [zH] at hq) <;> (try (exfalso; omega))) | (with_reducible apply z5; (case hl => (repeat (first | exact .nil | with_reducible apply z6 | with_reducible apply z7))); (case h => kernel_rfl))))
    · rw [if_neg (fun h => hx1 h.1)]
      (repeat' (first | (simp -implicitDefEqProofs (maxSteps := 2000000) (disch := first | with_reducible assumption | omega | (simp only [zS, zA, seval, zD] <;> omega) | fail) only [zS, argl, insA, Go.Den.wm, wo, wu, looks, wcb, wab, idOf, riA, seval, Go.Den.wh, kK, *, zT]) | (with_reducible (first | apply z1 | apply z2 | apply z3 | apply z4) <;> intro hq <;> (try simp only [zH] at hq) <;> (try (exfalso; omega))) | (with_reducible apply z5; (case hl => (repeat (first | exact .nil | with_reducible apply z6 | with_reducible apply z7))); (case h => kernel_rfl))))
  rw [if_neg h1] at hrow ⊢
  by_cases h7 : k = 7
  · rw [if_pos h7]
    subst h7
    clear ih hrow hok1
    by_cases hx1 : x.1 = 0
    · cases bol with
      | true =>
        rw [if_pos ⟨hx1, rfl⟩]
        (repeat' (first | (simp -implicitDefEqProofs (maxSteps := 2000000) (disch := first | with_reducible assumption | omega | (simp only [zS, zA, seval, wlu, zD] <;> omega) | fail) only [zS, argl, insA, Go.Den.wm, wo, wu, looks, wcb, wab, idOf, riA, seval, Go.Den.wh, kK, wy, *, zT]) | (with_reducible (first | apply z1 | apply z2 | apply z3 | apply z4) <;> intro hq <;> (try simp only [zH] at hq) <;> (try (exfalso; omega))) | (with_reducible apply z5; (case hl => (repeat (first | exact .nil | with_reducible apply z6 | with_reducible apply z7))); (case h => kernel_rfl))))
      | false =>
        rw [if_neg (fun h => by cases h.2)]
        (repeat' (first | (simp -implicitDefEqProofs (maxSteps := 2000000) (disch := first | with_reducible assumption | omega | (simp only [zS, zA, seval, zD] <;> omega) | fail) only [zS, argl, insA, Go.Den.wm, wo, wu, looks, wcb, wab, idOf, riA, seval, Go.Den.wh, kK, *, zT]) | (with_reducible (first | apply z1 | apply z2 | apply z3 | apply z4) <;> intro hq <;> (try simp only [zH] at hq) <;> (try (exfalso; omega))) | (with_reducible apply z5; (case hl => (repeat (first | exact .nil | with_reducible apply z6 | with_reducible apply z7))); (case h => kernel_rfl))))
    · rw [if_neg (fun h => hx1 h.1)]
      (repeat' (first | (simp -implicitDefEqProofs (maxSteps := 2000000) (disch := first | with_reducible assumption | omega | (simp only [zS, zA, seval, zD] <;> omega) | fail) only [zS, argl, insA, Go.Den.wm, wo, wu, looks, wcb, wab, idOf, riA, seval, Go.Den.wh, kK, *, zT]) | (with_reducible (first | apply z1 | apply z2 | apply z3 | apply z4) <;> intro hq <;> (try simp only [zH] at hq) <;> (try (exfalso; omega))) | (with_reducible apply z5; (case hl => (repeat (first | exact .nil | with_reducible apply z6 | with_reducible apply z7))); (case h => kernel_rfl))))
  rw [if_neg h7] at hrow ⊢
  by_cases h8 : k = 8
  · rw [if_pos h8]
    subst h8
    clear ih hrow hok1
    by_cases hx1 : x.1 = s.length
    · rw [if_pos hx1]
      (repeat' (first | (simp -implicitDefEqProofs (maxSteps := 2000000) (disch := first | with_reducible assumption | omega | (simp only [zS, zA, seval, wlu, zD] <;> omega) | fail) only [zS, argl, insA, Go.Den.wm, wo, wu, looks, wcb, wab, idOf, riA, seval, Go.Den.wh, kK, *, zT]) | (with_reducible (first | apply z1 | apply z2 | apply z3 | apply z4) <;> intro hq <;> (try simp only [zH] at hq) <;> (try (exfalso; omega))) | (with_reducible apply z5; (case hl => (repeat (first | exact .nil | with_reducible apply z6 | with_reducible apply z7))); (case h => kernel_rfl))))
    · rw [if_neg hx1]
      (repeat' (first | (simp -implicitDefEqProofs (maxSteps := 2000000) (disch := first | with_reducible assumption | omega | (simp only [zS, zA, seval, zD] <;> omega) | fail) only [zS, argl, insA, Go.Den.wm, wo, wu, looks, wcb, wab, idOf, riA, seval, Go.Den.wh, kK, *, zT]) | (with_reducible (first | apply z1 | apply z2 | apply z3 | apply z4) <;> intro hq <;> (try simp only [zH] at hq) <;> (try (exfalso; omega))) | (with_reducible apply z5; (case hl => (repeat (first | exact .nil | with_reducible apply z6 | with_reducible apply z7))); (case h => kernel_rfl))))
  rw [if_neg h8] at hrow ⊢
  by_cases h6 : k = 6
  · rw [if_pos h6]
    rw [if_neg (by omega), if_neg (by omega), if_pos h6] at hok1
    simp only [Bool.and_eq_true, decide_eq_true_eq] at hok1
    subst h6
    clear ih hrow
    have hb := ev_back s (by omega) bol n hok1.1 hok1.2 x hx
    (repeat' (first | (simp -implicitDefEqProofs (maxSteps := 2000000) (disch := first | with_reducible assumption | omega | (simp only [zS, zA, seval, zD] <;> omega) | fail) only [zS, argl, insA, Go.Den.wm, wo, wu, looks, wcb, wab, idOf, riA, seval, Go.Den.wh, kK, *, zT]) | (with_reducible (first | apply z1 | apply z2 | apply z3 | apply z4) <;> intro hq <;> (try simp only [zH] at hq) <;> (try (exfalso; omega))) | (with_reducible apply z5; (case hl => (repeat (first | exact .nil | with_reducible apply z6 | with_reducible apply z7))); (case h => kernel_rfl))))
  rw [if_neg h6] at hrow ⊢
  by_cases h5 : k = 5
  · rw [if_pos h5] at hrow ⊢
    rw [if_pos h5] at hok1
    simp only [Bool.and_eq_true, decide_eq_true_eq] at hok1
    subst h5
    cases kids with
    | nil => exact absurd rfl hok1.1
    | cons kid rest =>
      rw [kidF, wmlb]
      have ⟨r1, r2⟩ := ih kid (List.mem_cons_self ..) x hx
      have r3 := row_len r1 hs
      have hl := wcdc s hs (.mk 5 mn mx n set (kid :: rest)) hok1.2.1 hok1.2.2 x hx (wcf s bol kid x) (by omega) r1.good
      have hk : slotsOf (rxsC (kid :: rest)) 0 9 = rxC kid := by
        have := wjs (l := kid :: rest) (i := 0) (by simp)
        rwa [Nat.zero_mul] at this
      rw [rx_n] at hl
      clear ih r1 hrow
      generalize wss (fun y => [grpF n x y]) (wcf s bol kid x) [] = out at hl ⊢
      by_cases ho : out = []
      · subst ho
        rw [rowO, if_pos rfl] at hl
        (repeat' (first | (simp -implicitDefEqProofs (maxSteps := 2000000) (disch := first | with_reducible assumption | omega | (simp only [zS, zA, seval, wy, wfb, zD] <;> omega) | fail) only [zS, argl, insA, Go.Den.wm, wo, wu, looks, wcb, wab, idOf, riA, seval, Go.Den.wh, kK, wsd, wy, wfb, wij, *, zT]) | (with_reducible (first | apply z1 | apply z2 | apply z3 | apply z4) <;> intro hq <;> (try simp only [zH] at hq) <;> (try (exfalso; omega))) | (with_reducible apply z5; (case hl => (repeat (first | exact .nil | with_reducible apply z6 | with_reducible apply z7))); (case h => kernel_rfl))))
      · rw [rowO, if_neg ho] at hl
        (repeat' (first | (simp -implicitDefEqProofs (maxSteps := 2000000) (disch := first | with_reducible assumption | omega | (simp only [zS, zA, seval, wy, wfb, zD] <;> omega) | fail) only [zS, argl, insA, Go.Den.wm, wo, wu, looks, wcb, wab, idOf, riA, seval, Go.Den.wh, kK, wsd, wy, wfb, wij, *, zT]) | (with_reducible (first | apply z1 | apply z2 | apply z3 | apply z4) <;> intro hq <;> (try simp only [zH] at hq) <;> (try (exfalso; omega))) | (with_reducible apply z5; (case hl => (repeat (first | exact .nil | with_reducible apply z6 | with_reducible apply z7))); (case h => kernel_rfl))))
  rw [if_neg h5] at hrow ⊢
  by_cases h3 : k = 3
  · rw [if_pos h3]
    subst h3
    have hl := wedc s bol hs x hx kids hlen ih kids.length 0 (by omega)
    rw [List.drop_zero, show ((0 : Nat) : Int) = 0 from rfl] at hl
    clear ih hrow hok1
    generalize altF s bol kids x [] = out at hl ⊢
    by_cases ho : out = []
    · subst ho
      rw [rowO, if_pos rfl] at hl
      (repeat' (first | (simp -implicitDefEqProofs (maxSteps := 2000000) (disch := first | with_reducible assumption | omega | (simp only [zS, zA, seval, wy, wfb, zD] <;> omega) | fail) only [zS, argl, insA, Go.Den.wm, wo, wu, looks, wcb, wab, idOf, riA, seval, Go.Den.wh, kK, wfd, wy, wfb, wij, *, zT]) | (with_reducible (first | apply z1 | apply z2 | apply z3 | apply z4) <;> intro hq <;> (try simp only [zH] at hq) <;> (try (exfalso; omega))) | (with_reducible apply z5; (case hl => (repeat (first | exact .nil | with_reducible apply z6 | with_reducible apply z7))); (case h => kernel_rfl))))
    · rw [rowO, if_neg ho] at hl
      (repeat' (first | (simp -implicitDefEqProofs (maxSteps := 2000000) (disch := first | with_reducible assumption | omega | (simp only [zS, zA, seval, wy, wfb, zD] <;> omega) | fail) only [zS, argl, insA, Go.Den.wm, wo, wu, looks, wcb, wab, idOf, riA, seval, Go.Den.wh, kK, wfd, wy, wfb, wij, *, zT]) | (with_reducible (first | apply z1 | apply z2 | apply z3 | apply z4) <;> intro hq <;> (try simp only [zH] at hq) <;> (try (exfalso; omega))) | (with_reducible apply z5; (case hl => (repeat (first | exact .nil | with_reducible apply z6 | with_reducible apply z7))); (case h => kernel_rfl))))
  rw [if_neg h3] at hrow ⊢
  by_cases h2 : k = 2
  · rw [if_pos h2]
    subst h2
    cases kids with
    | nil =>
      rw [catF]
      have hl : lim Try.prog cfg (.loop 75 0 (wub 2) (SE (EJ 158 G0) [(130, .int .i64 0), (129, .int .i64 0), (128, FL 0 []), (7, .slice (some ⟨1, 0, none⟩) 1 2), (3, .pointer (some ⟨0, 0, none⟩))])) (HP [X [str s, .bool bol] 138 0 true, X (stC x) 87 0 true]) = some (.code (.exit 5) (SE (EJ 158 G0) [(7, .slice (some ⟨0, 0, none⟩) 1 2)]), HP [X (stC x) 87 0 true]) := by
        refine wbb wpe ?_
        unfold woe
        clear ih hrow
        (repeat' (first | (simp -implicitDefEqProofs (maxSteps := 2000000) (disch := first | with_reducible assumption | omega | (simp only [zS, zA, seval, zD] <;> omega) | fail) only [zS, argl, insA, Go.Den.wm, wo, wu, looks, wcb, wab, idOf, riA, seval, Go.Den.wh, kK, wtd, *, zT]) | (with_reducible (first | apply z1 | apply z2 | apply z3 | apply z4) <;> intro hq <;> (try simp only [zH] at hq) <;> (try (exfalso; omega))) | (with_reducible apply z5; (case hl => (repeat (first | exact .nil | with_reducible apply z6 | with_reducible apply z7))); (case h => kernel_rfl))))
      clear ih hrow hok1
      (repeat' (first | (simp -implicitDefEqProofs (maxSteps := 2000000) (disch := first | with_reducible assumption | omega | (simp only [zS, zA, seval, zD] <;> omega) | fail) only [zS, argl, insA, Go.Den.wm, wo, wu, looks, wcb, wab, idOf, riA, seval, Go.Den.wh, kK, wtd, rxsC, Int.natCast_zero, *, zT]) | (with_reducible (first | apply z1 | apply z2 | apply z3 | apply z4) <;> intro hq <;> (try simp only [zH] at hq) <;> (try (exfalso; omega))) | (with_reducible apply z5; (case hl => (repeat (first | exact .nil | with_reducible apply z6 | with_reducible apply z7))); (case h => kernel_rfl))))
    | cons kid rest =>
      rw [catF]
      have hw := ih kid (List.mem_cons_self ..)
      have hf := wxcc s hs bol kid (fun y => wcf s bol kid y) x.1 [x] (by simp) (fun y hy => by rw [List.mem_singleton] at hy; subst hy; exact ⟨hx, Int.le_refl _⟩) hw
      have hr : RwS s.length x.1 (wklb (fun y => wcf s bol kid y) [x]) := by
        refine RwS.fold _ [x] (fun z hz y hy => ?_) [] .nil
        rw [List.mem_singleton] at hz
        subst hz
        exact (hw z hx).1.good y hy
      have hl := cat_loop s bol hs x.1 (kid :: rest) hlen ih rest.length 1 _ (by simp; omega) hr
      rw [show (kid :: rest).drop 1 = rest from rfl, show ((1 : Nat) : Int) = 1 from rfl] at hl
      rw [wtf, show [x].length = 1 from rfl] at hf
      have hk : slotsOf (rxsC (kid :: rest)) 0 9 = rxC kid := by
        have := wjs (l := kid :: rest) (i := 0) (by simp)
        rwa [Nat.zero_mul] at this
      have hkl : 0 < (kid :: rest).length := by simp
      have hkc : 9 ≤ (rxsC (kid :: rest)).length := by rw [wucb, List.length_cons]; omega
      rw [List.length_cons] at hl
      generalize wklb (fun y => wcf s bol kid y) [x] = l1 at hf hl ⊢
      have hl0 : lim Try.prog cfg (.loop 75 0 (wub 2) (SE (EJ 158 G0) [(130, .int .i64 0), (129, .int .i64 (rest.length + 1 : Nat)), (128, FL (rest.length + 1) (rxsC (kid :: rest))), (7, .slice (some ⟨1, 0, none⟩) 1 2), (3, .pointer (some ⟨0, 0, none⟩))])) (HP [X [str s, .bool bol] 138 0 true, X (stC x) 87 0 true]) = some (.code (.exit 5) (SE (EJ 158 G0) [(7, FL (catF s bol rest l1).length (stsC (catF s bol rest l1)))]), HP []) := by
        refine wbb wpe ?_
        unfold woe
        clear ih hrow hw hok1
        generalize rxsC (kid :: rest) = KC at *
        (repeat' (first | (simp -implicitDefEqProofs (maxSteps := 2000000) (disch := first | with_reducible assumption | omega | (simp only [zS, zA, seval, zD] <;> omega) | fail) only [zS, argl, insA, Go.Den.wm, wo, wu, looks, wcb, wab, idOf, riA, seval, Go.Den.wh, kK, wtd, *, zT]) | (with_reducible (first | apply z1 | apply z2 | apply z3 | apply z4) <;> intro hq <;> (try simp only [zH] at hq) <;> (try (exfalso; omega))) | (with_reducible apply z5; (case hl => (repeat (first | exact .nil | with_reducible apply z6 | with_reducible apply z7))); (case h => kernel_rfl))))
      clear ih hrow hok1 hw hl hf
      (repeat' (first | (simp -implicitDefEqProofs (maxSteps := 2000000) (disch := first | with_reducible assumption | omega | (simp only [zS, zA, seval, zD] <;> omega) | fail) only [zS, argl, insA, Go.Den.wm, wo, wu, looks, wcb, wab, idOf, riA, seval, Go.Den.wh, kK, wtd, *, zT]) | (with_reducible (first | apply z1 | apply z2 | apply z3 | apply z4) <;> intro hq <;> (try simp only [zH] at hq) <;> (try (exfalso; omega))) | (with_reducible apply z5; (case hl => (repeat (first | exact .nil | with_reducible apply z6 | with_reducible apply z7))); (case h => kernel_rfl))))
  rw [if_neg h2] at hrow ⊢
  by_cases h4 : k = 4
  · rw [if_pos h4]
    rw [if_neg (by omega), if_pos h4] at hok1
    simp only [Bool.and_eq_true, decide_eq_true_eq] at hok1
    subst h4
    cases kids with
    | nil => exact absurd rfl hok1.1
    | cons kid rest =>
      have hw := ih kid (List.mem_cons_self ..)
      have hk : slotsOf (rxsC (kid :: rest)) 0 9 = rxC kid := by
        have := wjs (l := kid :: rest) (i := 0) (by simp)
        rwa [Nat.zero_mul] at this
      have hf : (fun y => kidF s bol (kid :: rest) y) = fun y => wcf s bol kid y := by funext y; rw [kidF]
      rw [hf]
      have hon := (on_all s bol mn mx n set (kid :: rest) hs ⟨hok1.2.1, hok1.2.2.1⟩ hok1.2.2.2.2 (fun y => wcf s bol kid y) x.1 ⟨kid, hk, by simp, hw⟩ 100).2 0 x [] (by omega) (by omega) hx (Int.le_refl _) (by unfold muF; split <;> omega)
      rcases hq : onF (fun y => wcf s bol kid y) mn mx 100 0 x ([], []) with ⟨met, out⟩
      rw [hq] at hon
      clear ih hrow hw hk hf hq hok1
      by_cases ho : out = []
      · subst ho
        rw [reO, if_pos rfl] at hon
        simp only [reN, repB, wmnb, List.length_cons] at hon
        (repeat' (first | (simp -implicitDefEqProofs (maxSteps := 2000000) (disch := first | with_reducible assumption | omega | (simp only [zS, zA, seval, wy, wfb, wmb, zD] <;> omega) | fail) only [zS, argl, insA, Go.Den.wm, wo, wu, looks, wcb, wab, idOf, riA, seval, Go.Den.wh, kK, wy, wfb, wmb, wij, wmx, wdf, *, zT]) | (with_reducible (first | apply z1 | apply z2 | apply z3 | apply z4) <;> intro hq <;> (try simp only [zH] at hq) <;> (try (exfalso; omega))) | (with_reducible apply z5; (case hl => (repeat (first | exact .nil | with_reducible apply z6 | with_reducible apply z7))); (case h => kernel_rfl))))
      · rw [reO, if_neg ho] at hon
        simp only [reE, reN, repB, wmnb, List.length_cons] at hon
        (repeat' (first | (simp -implicitDefEqProofs (maxSteps := 2000000) (disch := first | with_reducible assumption | omega | (simp only [zS, zA, seval, wy, wfb, wmb, zD] <;> omega) | fail) only [zS, argl, insA, Go.Den.wm, wo, wu, looks, wcb, wab, idOf, riA, seval, Go.Den.wh, kK, wy, wfb, wmb, wij, wmx, wdf, *, zT]) | (with_reducible (first | apply z1 | apply z2 | apply z3 | apply z4) <;> intro hq <;> (try simp only [zH] at hq) <;> (try (exfalso; omega))) | (with_reducible apply z5; (case hl => (repeat (first | exact .nil | with_reducible apply z6 | with_reducible apply z7))); (case h => kernel_rfl))))
  rw [if_neg h4]
  clear ih hrow hok1
  (repeat' (first | (simp -implicitDefEqProofs (maxSteps := 2000000) (disch := first | with_reducible assumption | omega | (simp only [zS, zA, seval, zD] <;> omega) | fail) only [zS, argl, insA, Go.Den.wm, wo, wu, looks, wcb, wab, idOf, riA, seval, Go.Den.wh, kK, *, zT]) | (with_reducible (first | apply z1 | apply z2 | apply z3 | apply z4) <;> intro hq <;> (try simp only [zH] at hq) <;> (try (exfalso; omega))) | (with_reducible apply z5; (case hl => (repeat (first | exact .nil | with_reducible apply z6 | with_reducible apply z7))); (case h => kernel_rfl))))
end
end
end Go.Proofs.Ytgpabbbibmnnlaa
namespace Go.Proofs.Ytgpabbbibmnnlaa
set_option linter.unusedVariables false
set_option linter.unusedSimpArgs false
open Go.Den
noncomputable section
abbrev ints (l : List Int) : List Value := l.map (Value.int .i64)
theorem wwnb {l : List Int} {i : Nat} (h : i < l.length) : (ints l)[i]? = some (.int .i64 (l.getD i 0)) := by
  rw [ints, List.getElem?_map, List.getD_eq_getElem?_getD, List.getElem?_eq_getElem h]; rfl
theorem whh {l : List Int} : (ints l).length = l.length := List.length_map ..
theorem int_drop (l : List Int) {i : Nat} (h : i < l.length) : l.drop i = l.getD i 0 :: l.drop (i + 1) := by
  rw [List.drop_eq_getElem_cons h, List.getD_eq_getElem?_getD, List.getElem?_eq_getElem h]; rfl
theorem wpt (l : List Rx) {i : Nat} (h : i < l.length) : l.drop i = l.getD i Rx.zero :: l.drop (i + 1) := by
  rw [List.drop_eq_getElem_cons h, List.getD_eq_getElem?_getD, List.getElem?_eq_getElem h]; rfl
def fstF {α : Type} (p : α → Bool) : List α → Nat → Option Nat
  | [], _ => none
  | a :: l, i => if p a = true then some i else fstF p l (i + 1)
def fstV : Option Nat → Int
  | none => -1
  | some j => j
theorem whdc {α : Type} (p : α → Bool) : ∀ (l : List α) (i : Nat), decide (0 ≤ fstV (fstF p l i)) = l.any p := by
  intro l
  induction l with
  | nil => intro i; rfl
  | cons a l ih =>
    intro i
    rw [fstF, List.any_cons]
    by_cases h : p a = true
    · rw [if_pos h, h]; simp [fstV]
    · rw [if_neg h, ih]; simp [h]
theorem wac {P : Program} {cs : wcc} {R : Type} {K : KR R} {d : Option Tmp} {l : List RO} {e : Env} {H : AH} {wr : List Nat} {want : Bool} {x : ARes} : wvfb P cs K d l e H wr want x undef = opsR P cs K l (e.put d undef) H := by cases want <;> rfl
theorem wmc {want : Bool} : wfq want undef = some false := by cases want <;> rfl
theorem wdb : refs JK = [] := rfl
theorem wib {m : Nm} : renV m JK = JK := rfl
theorem ej19 : (EJ 19 G0).get 4 = JK := rfl
def fstO (n : Nat) : Option Nat → Option (Out × AH)
  | none => some (.code (.exit 0) (SE (EJ n G0) [(4, JK)]), HP [])
  | some j => some (.code .ret (SE (EJ n G0) [(4, .int .i64 j)]), HP [])
theorem idx_loop (l : List Int) (hl : l.length ≤ 16000000) (v : Int) : ∀ (k i : Nat), i + k = l.length →
    lim Try.prog cfg (.loop 173 0 (wwd 0) (SE (EJ 19 G0) [(8, .int .i64 i), (7, .int .i64 l.length), (1, .int .i64 v), (0, FL l.length (ints l))])) (HP []) = fstO 19 (fstF (fun a => decide (v = a)) (l.drop i) i) := by
  intro k
  induction k with
  | zero =>
    intro i hi
    rw [List.drop_of_length_le (by omega), fstF, fstO]
    refine wbb wad ?_
    unfold wxc
    (repeat' (first | (simp -implicitDefEqProofs (maxSteps := 2000000) (disch := first | with_reducible assumption | omega | (simp only [zS, zA, seval, wdb, wib] <;> omega) | fail) only [zS, argl, insA, Go.Den.wm, wo, wu, looks, wcb, wab, idOf, riA, seval, Go.Den.wh, kK, wnc, whh, wdb, wib, ej19, *]) | (with_reducible (first | apply z1 | apply z2 | apply z3 | apply z4) <;> intro hq <;> (try simp only [zH] at hq) <;> (try (exfalso; omega)))))
  | succ k ih =>
    intro i hi
    rw [int_drop l (by omega), fstF]
    have h := ih (i + 1) (by omega)
    clear ih
    have hg := wwnb (l := l) (i := i) (by omega)
    by_cases hv : v = l.getD i 0
    · rw [if_pos (by simpa using hv), fstO]
      clear h
      refine wbb wad ?_
      unfold wxc
      (repeat' (first | (simp -implicitDefEqProofs (maxSteps := 2000000) (disch := first | with_reducible assumption | omega | (simp only [zS, zA, seval, wdb, wib] <;> omega) | fail) only [zS, argl, insA, Go.Den.wm, wo, wu, looks, wcb, wab, idOf, riA, seval, Go.Den.wh, kK, wnc, whh, wdb, wib, ej19, *]) | (with_reducible (first | apply z1 | apply z2 | apply z3 | apply z4) <;> intro hq <;> (try simp only [zH] at hq) <;> (try (exfalso; omega)))))
    · rw [if_neg (by simpa using hv)]
      generalize fstF (fun a => decide (v = a)) (l.drop (i + 1)) (i + 1) = o at h ⊢
      cases o with
      | none =>
        rw [fstO] at h ⊢
        refine wbb wad ?_
        unfold wxc
        (repeat' (first | (simp -implicitDefEqProofs (maxSteps := 2000000) (disch := first | with_reducible assumption | omega | (simp only [zS, zA, seval, wdb, wib] <;> omega) | fail) only [zS, argl, insA, Go.Den.wm, wo, wu, looks, wcb, wab, idOf, riA, seval, Go.Den.wh, kK, wnc, whh, wdb, wib, ej19, *]) | (with_reducible (first | apply z1 | apply z2 | apply z3 | apply z4) <;> intro hq <;> (try simp only [zH] at hq) <;> (try (exfalso; omega)))))
        exact h
      | some j =>
        rw [fstO] at h ⊢
        refine wbb wad ?_
        unfold wxc
        (repeat' (first | (simp -implicitDefEqProofs (maxSteps := 2000000) (disch := first | with_reducible assumption | omega | (simp only [zS, zA, seval, wdb, wib] <;> omega) | fail) only [zS, argl, insA, Go.Den.wm, wo, wu, looks, wcb, wab, idOf, riA, seval, Go.Den.wh, kK, wnc, whh, wdb, wib, ej19, *]) | (with_reducible (first | apply z1 | apply z2 | apply z3 | apply z4) <;> intro hq <;> (try simp only [zH] at hq) <;> (try (exfalso; omega)))))
        exact h
theorem ev_Index (l : List Int) (hl : l.length ≤ 16000000) (v : Int) : lim Try.prog cfg (.call 173 [FL l.length (ints l), .int .i64 v]) (HP []) = some (.val (.int .i64 (fstV (fstF (fun a => decide (v = a)) l 0))), HP []) := by
  refine wnb hc wqk (Nat.le_of_ble_eq_true rfl) (Nat.le_of_ble_eq_true rfl) ?_
  unfold wci
  have h := idx_loop l hl v l.length 0 (by omega)
  rw [List.drop_zero, show ((0 : Nat) : Int) = 0 from rfl] at h
  generalize fstF (fun a => decide (v = a)) l 0 = o at h ⊢
  rcases o with _ | j
  · rw [fstO] at h
    (repeat' (first | (simp -implicitDefEqProofs (maxSteps := 2000000) (disch := first | with_reducible assumption | omega | (simp only [zS, zA, seval, wdb, wib] <;> omega) | fail) only [zS, argl, insA, Go.Den.wm, wo, wu, looks, wcb, wab, idOf, riA, seval, Go.Den.wh, kK, wnc, whh, wdb, wib, ej19, fstV, *]) | (with_reducible (first | apply z1 | apply z2 | apply z3 | apply z4) <;> intro hq <;> (try simp only [zH] at hq) <;> (try (exfalso; omega)))))
  · rw [fstO] at h
    (repeat' (first | (simp -implicitDefEqProofs (maxSteps := 2000000) (disch := first | with_reducible assumption | omega | (simp only [zS, zA, seval, wdb, wib] <;> omega) | fail) only [zS, argl, insA, Go.Den.wm, wo, wu, looks, wcb, wab, idOf, riA, seval, Go.Den.wh, kK, wnc, whh, wdb, wib, ej19, fstV, *]) | (with_reducible (first | apply z1 | apply z2 | apply z3 | apply z4) <;> intro hq <;> (try simp only [zH] at hq) <;> (try (exfalso; omega)))))
theorem wnlb (l : List Int) (hl : l.length ≤ 16000000) (v : Int) : lim Try.prog cfg (.call 165 [FL l.length (ints l), .int .i64 v]) (HP []) = some (.val (.bool (l.any fun a => decide (v = a))), HP []) := by
  refine wnb hc wkj (Nat.le_of_ble_eq_true rfl) (Nat.le_of_ble_eq_true rfl) ?_
  unfold wtg
  have h := ev_Index l hl v
  rw [← whdc _ l 0]
  generalize fstV (fstF (fun a => decide (v = a)) l 0) = z at h ⊢
  (repeat' (first | (simp -implicitDefEqProofs (maxSteps := 2000000) (disch := first | with_reducible assumption | omega | (simp only [zS, zA, seval] <;> omega) | fail) only [zS, argl, insA, Go.Den.wm, wo, wu, looks, wcb, wab, idOf, riA, seval, Go.Den.wh, kK, *]) | (with_reducible (first | apply z1 | apply z2 | apply z3 | apply z4) <;> intro hq <;> (try simp only [zH] at hq) <;> (try (exfalso; omega)))))
theorem ev_has1 (l : List Int) (hl : l.length ≤ 16000000) (r : Rx) : lim Try.prog cfg (.call 164 [.agg ⟨rxC r⟩, .pointer (some ⟨0, 0, none⟩)]) (HP [X [FL l.length (ints l)] 39 0 true]) = some (.val (.bool (l.any fun a => decide (r.kind = a))), HP [X [FL l.length (ints l)] 39 0 true]) := by
  refine wnb hc wuy (Nat.le_of_ble_eq_true rfl) (Nat.le_of_ble_eq_true rfl) ?_
  unfold whx
  have h := wnlb l hl r.kind
  (repeat' (first | (simp -implicitDefEqProofs (maxSteps := 2000000) (disch := first | with_reducible assumption | omega | (simp only [zS, zA, seval, zD] <;> omega) | fail) only [zS, argl, insA, Go.Den.wm, wo, wu, looks, wcb, wab, idOf, riA, seval, Go.Den.wh, kK, *, zT]) | (with_reducible (first | apply z1 | apply z2 | apply z3 | apply z4) <;> intro hq <;> (try simp only [zH] at hq) <;> (try (exfalso; omega)))))
end
end Go.Proofs.Ytgpabbbibmnnlaa
namespace Go.Proofs.Ytgpabbbibmnnlaa
set_option linter.unusedVariables false
set_option linter.unusedSimpArgs false
open Go.Den
noncomputable section
def wwh (l : List Int) (r : Rx) : Bool := l.any fun a => decide (r.kind = a)
abbrev hasFn : Value := .func (.func 164) ⟨[]⟩ ⟨[.pointer (some ⟨0, 0, none⟩)]⟩
abbrev hasB (l : List Int) : List ABlk := [X [FL l.length (ints l)] 39 0 true]
theorem hb_has1 : wpn Try.prog 164 = true := by kernel_rfl
theorem wbdb {args : List Value} : dynA Try.prog hasFn args = .call 164 (args ++ [.pointer (some ⟨0, 0, none⟩)]) := by
  unfold dynA
  simp only [hb_has1, cond_true, List.nil_append]
theorem wolb : cfg.know 164 = none := by kernel_rfl
def fstW (ks : List Int) (n : Nat) : Option Nat → Option (Out × AH)
  | none => some (.code (.exit 0) (SE (EJ n G0) [(4, JK)]), HP (hasB ks))
  | some j => some (.code .ret (SE (EJ n G0) [(4, .int .i64 j)]), HP (hasB ks))
theorem widc (ks : List Int) (hks : ks.length ≤ 16000000) (l : List Rx) (hl : l.length ≤ 16000000) : ∀ (k i : Nat), i + k = l.length →
    lim Try.prog cfg (.loop 172 1 (wpc 0) (SE (EJ 19 G0) [(8, .int .i64 i), (7, .int .i64 l.length), (1, hasFn), (0, FL l.length (rxsC l))])) (HP (hasB ks)) = fstW ks 19 (fstF (wwh ks) (l.drop i) i) := by
  intro k
  induction k with
  | zero =>
    intro i hi
    rw [List.drop_of_length_le (by omega), fstF, fstW]
    refine wbb wec ?_
    unfold wbc
    (repeat' (first | (simp -implicitDefEqProofs (maxSteps := 2000000) (disch := first | with_reducible assumption | omega | (simp only [zS, zA, seval, wdb, wib, zD] <;> omega) | fail) only [zS, argl, insA, Go.Den.wm, wo, wu, looks, wcb, wab, idOf, riA, seval, Go.Den.wh, kK, wtb, wdb, wib, ej19, *, zT]) | (with_reducible (first | apply z1 | apply z2 | apply z3 | apply z4) <;> intro hq <;> (try simp only [zH] at hq) <;> (try (exfalso; omega)))))
  | succ k ih =>
    intro i hi
    rw [wpt l (by omega), fstF]
    have h := ih (i + 1) (by omega)
    clear ih
    have h1 := ev_has1 ks hks (l.getD i Rx.zero)
    by_cases hv : wwh ks (l.getD i Rx.zero) = true
    · rw [if_pos hv, fstW]
      unfold wwh at hv
      rw [hv] at h1
      clear h hv
      refine wbb wec ?_
      unfold wbc
      (repeat' (first | (simp -implicitDefEqProofs (maxSteps := 2000000) (disch := first | with_reducible assumption | omega | (simp only [zS, zA, seval, zD] <;> omega) | fail) only [zS, argl, insA, Go.Den.wm, wo, wu, looks, wcb, wab, idOf, riA, seval, Go.Den.wh, kK, wtb, wbdb, wolb, *, zT]) | (with_reducible (first | apply z1 | apply z2 | apply z3 | apply z4) <;> intro hq <;> (try simp only [zH] at hq) <;> (try (exfalso; omega)))))
    · rw [if_neg hv]
      have hv2 : (ks.any fun a => decide ((l.getD i Rx.zero).kind = a)) = false := by show wwh ks _ = false; exact Bool.eq_false_iff.2 hv
      rw [hv2] at h1
      generalize fstF (wwh ks) (l.drop (i + 1)) (i + 1) = o at h ⊢
      clear hv hv2
      cases o with
      | none =>
        rw [fstW] at h ⊢
        refine wbb wec ?_
        unfold wbc
        (repeat' (first | (simp -implicitDefEqProofs (maxSteps := 2000000) (disch := first | with_reducible assumption | omega | (simp only [zS, zA, seval, wdb, wib, zD] <;> omega) | fail) only [zS, argl, insA, Go.Den.wm, wo, wu, looks, wcb, wab, idOf, riA, seval, Go.Den.wh, kK, wtb, wbdb, wolb, wdb, wib, ej19, *, zT]) | (with_reducible (first | apply z1 | apply z2 | apply z3 | apply z4) <;> intro hq <;> (try simp only [zH] at hq) <;> (try (exfalso; omega)))))
        exact h
      | some j =>
        rw [fstW] at h ⊢
        refine wbb wec ?_
        unfold wbc
        (repeat' (first | (simp -implicitDefEqProofs (maxSteps := 2000000) (disch := first | with_reducible assumption | omega | (simp only [zS, zA, seval, wdb, wib, zD] <;> omega) | fail) only [zS, argl, insA, Go.Den.wm, wo, wu, looks, wcb, wab, idOf, riA, seval, Go.Den.wh, kK, wtb, wbdb, wolb, wdb, wib, ej19, *, zT]) | (with_reducible (first | apply z1 | apply z2 | apply z3 | apply z4) <;> intro hq <;> (try simp only [zH] at hq) <;> (try (exfalso; omega)))))
        exact h
def wktb (r : Rx) : Bool := !((decide (r.kind ≠ 1) && decide (r.set ≠ 0#256)) || (decide (r.kind ≠ 4) && (decide (r.mn ≠ 0) || decide (r.mx ≠ 0)))) && (decide (r.kind = 5) || (decide (r.kind = 6) || decide (r.n = 0)))
theorem wxnb : [Value.int .u64 0, .int .u64 0, .int .u64 0, .int .u64 0] = setC 0#256 := rfl
theorem ev_bare (r : Rx) : lim Try.prog cfg (.call 114 [.agg ⟨rxC r⟩]) (HP []) = some (.val (.bool (wktb r)), HP []) := by
  refine wnb hc wocb (Nat.le_of_ble_eq_true rfl) (Nat.le_of_ble_eq_true rfl) ?_
  unfold wbab wktb
  have hz : ∀ a b, eqcV true [.int .u64, .int .u64, .int .u64, .int .u64] (.agg ⟨setC a⟩) (.agg ⟨setC b⟩) = val (.bool (decide (a ≠ b))) := wtbc
  (repeat' (first | (simp -implicitDefEqProofs (maxSteps := 2000000) (disch := first | with_reducible assumption | omega | (simp only [zS, zA, seval, zD] <;> omega) | fail) only [zS, argl, insA, Go.Den.wm, wo, wu, looks, wcb, wab, idOf, riA, seval, Go.Den.wh, kK, wxnb, wac, wmc, *, zT]) | (with_reducible (first | apply z1 | apply z2 | apply z3 | apply z4) <;> intro hq <;> (try simp only [zH] at hq) <;> (try (exfalso; omega)))))
def repF (r : Rx) : Bool := decide (0 ≤ r.mn) && (decide (r.mn ≤ 20) && (decide (r.mx = -1) || (decide (max r.mn 1 ≤ r.mx) && decide (r.mx ≤ 20))))
theorem ev_rep (r : Rx) : lim Try.prog cfg (.call 145 [.agg ⟨rxC r⟩]) (HP []) = some (.val (.bool (repF r)), HP []) := by
  refine wnb hc wlgb (Nat.le_of_ble_eq_true rfl) (Nat.le_of_ble_eq_true rfl) ?_
  unfold wkgb repF
  (repeat' (first | (simp -implicitDefEqProofs (maxSteps := 2000000) (disch := first | with_reducible assumption | omega | (simp only [zS, zA, seval, zD] <;> omega) | fail) only [zS, argl, insA, Go.Den.wm, wo, wu, looks, wcb, wab, idOf, riA, seval, Go.Den.wh, kK, wac, wmc, *, zT]) | (with_reducible (first | apply z1 | apply z2 | apply z3 | apply z4) <;> intro hq <;> (try simp only [zH] at hq) <;> (try (exfalso; omega)))))
end
end Go.Proofs.Ytgpabbbibmnnlaa
namespace Go.Proofs.Ytgpabbbibmnnlaa
set_option linter.unusedVariables false
set_option linter.unusedSimpArgs false
open Go.Den
noncomputable section
theorem wygb (ks : List Int) (hks : ks.length ≤ 16000000) (l : List Rx) (hl : l.length ≤ 16000000) : lim Try.prog cfg (.call 172 [FL l.length (rxsC l), hasFn]) (HP (hasB ks)) = some (.val (.int .i64 (fstV (fstF (wwh ks) l 0))), HP (hasB ks)) := by
  refine wnb hc wzg (Nat.le_of_ble_eq_true rfl) (Nat.le_of_ble_eq_true rfl) ?_
  unfold wse
  have h := widc ks hks l hl l.length 0 (by omega)
  rw [List.drop_zero, show ((0 : Nat) : Int) = 0 from rfl] at h
  generalize fstF (wwh ks) l 0 = o at h ⊢
  cases o with
  | none =>
    rw [fstW] at h
    (repeat' (first | (simp -implicitDefEqProofs (maxSteps := 2000000) (disch := first | with_reducible assumption | omega | (simp only [zS, zA, seval, wdb, wib, zD] <;> omega) | fail) only [zS, argl, insA, Go.Den.wm, wo, wu, looks, wcb, wab, idOf, riA, seval, Go.Den.wh, kK, wtb, fstV, wdb, wib, ej19, *, zT]) | (with_reducible (first | apply z1 | apply z2 | apply z3 | apply z4) <;> intro hq <;> (try simp only [zH] at hq) <;> (try (exfalso; omega)))))
  | some j =>
    rw [fstW] at h
    (repeat' (first | (simp -implicitDefEqProofs (maxSteps := 2000000) (disch := first | with_reducible assumption | omega | (simp only [zS, zA, seval, wdb, wib, zD] <;> omega) | fail) only [zS, argl, insA, Go.Den.wm, wo, wu, looks, wcb, wab, idOf, riA, seval, Go.Den.wh, kK, wtb, fstV, wdb, wib, ej19, *, zT]) | (with_reducible (first | apply z1 | apply z2 | apply z3 | apply z4) <;> intro hq <;> (try simp only [zH] at hq) <;> (try (exfalso; omega)))))
theorem wpx (ks : List Int) (hks : ks.length ≤ 16000000) (l : List Rx) (hl : l.length ≤ 16000000) : lim Try.prog cfg (.call 163 [FL l.length (rxsC l), hasFn]) (HP (hasB ks)) = some (.val (.bool (l.any (wwh ks))), HP (hasB ks)) := by
  refine wnb hc whg (Nat.le_of_ble_eq_true rfl) (Nat.le_of_ble_eq_true rfl) ?_
  unfold wxd
  have h := wygb ks hks l hl
  rw [← whdc _ l 0]
  generalize fstV (fstF (wwh ks) l 0) = z at h ⊢
  (repeat' (first | (simp -implicitDefEqProofs (maxSteps := 2000000) (disch := first | with_reducible assumption | omega | (simp only [zS, zA, seval, zD] <;> omega) | fail) only [zS, argl, insA, Go.Den.wm, wo, wu, looks, wcb, wab, idOf, riA, seval, Go.Den.wh, kK, *, zT]) | (with_reducible (first | apply z1 | apply z2 | apply z3 | apply z4) <;> intro hq <;> (try simp only [zH] at hq) <;> (try (exfalso; omega)))))
theorem wplb (ks : List Int) (hks : ks.length ≤ 16000000) (l : List Rx) (hl : l.length ≤ 16000000) : lim Try.prog cfg (.call 144 [FL l.length (rxsC l), FL ks.length (ints ks)]) (HP []) = some (.val (.bool (l.any (wwh ks))), HP []) := by
  refine wnb hc wjgb (Nat.le_of_ble_eq_true rfl) (Nat.le_of_ble_eq_true rfl) ?_
  unfold wigb
  have h := wpx ks hks l hl
  (repeat' (first | (simp -implicitDefEqProofs (maxSteps := 2000000) (disch := first | with_reducible assumption | omega | (simp only [zS, zA, seval, zD] <;> omega) | fail) only [zS, argl, insA, Go.Den.wm, wo, wu, looks, wcb, wab, idOf, riA, seval, Go.Den.wh, kK, *, zT]) | (with_reducible (first | apply z1 | apply z2 | apply z3 | apply z4) <;> intro hq <;> (try simp only [zH] at hq) <;> (try (exfalso; omega)))))
end
end Go.Proofs.Ytgpabbbibmnnlaa
namespace Go.Den
set_option linter.unusedVariables false
set_option linter.unusedSimpArgs false
noncomputable section
mutual
def wzc : Rx → Nat
  | .mk _ _ _ _ _ kids => 1 + wwc kids
def wwc : List Rx → Nat
  | [] => 0
  | r :: l => wzc r + wwc l
end
theorem wjdc (r : Rx) : 1 ≤ wzc r := by cases r; rw [wzc]; omega
theorem wqx : ∀ (l : List Rx), l.length ≤ wwc l := by
  intro l
  induction l with
  | nil => rw [wwc]; exact Nat.le_refl _
  | cons r l ih => rw [wwc, List.length_cons]; have := wjdc r; omega
theorem wltb (l : List Rx) (i : Nat) : wwc (l.drop i) ≤ wwc l := by
  induction l generalizing i with
  | nil => rw [List.drop_nil]; exact Nat.le_refl _
  | cons a l ih =>
    cases i with
    | zero => rw [List.drop_zero]; exact Nat.le_refl _
    | succ i => rw [List.drop_succ_cons, wwc]; have := ih i; omega
end
end Go.Den
namespace Go.Proofs.Ytgpabbbibmnnlaa
open Go.Den
noncomputable section
def wsq (r : Rx) : Bool :=
  if r.kind = 1 then decide ((r.kids.length : Int) = 0) && decide (r.set ≠ 0#256)
  else if r.kind = 2 then decide ((r.kids.length : Int) ≠ 1) && !(r.kids.any (wwh [2, 3]))
  else if r.kind = 3 then decide ((2 : Int) ≤ r.kids.length) && !(r.kids.any (wwh [3]))
  else if r.kind = 4 then decide ((r.kids.length : Int) = 1) && (r.kids.any (wwh [1, 5, 6]) && repF r)
  else if r.kind = 5 then decide ((r.kids.length : Int) = 1)
  else if r.kind = 6 then decide ((r.kids.length : Int) = 0)
  else if r.kind = 7 then decide ((r.kids.length : Int) = 0)
  else if r.kind = 8 then decide ((r.kids.length : Int) = 0)
  else false
theorem ev_has2 (a b : Int) (l : List Rx) (hl : l.length ≤ 16000000) : lim Try.prog cfg (.call 144 [FL l.length (rxsC l), FL 2 [.int .i64 a, .int .i64 b]]) (HP []) = some (.val (.bool (l.any (wwh [a, b]))), HP []) := wplb [a, b] (by simp) l hl
theorem wkdc (a : Int) (l : List Rx) (hl : l.length ≤ 16000000) : lim Try.prog cfg (.call 144 [FL l.length (rxsC l), FL 1 [.int .i64 a]]) (HP []) = some (.val (.bool (l.any (wwh [a]))), HP []) := wplb [a] (by simp) l hl
theorem ev_has3 (a b c : Int) (l : List Rx) (hl : l.length ≤ 16000000) : lim Try.prog cfg (.call 144 [FL l.length (rxsC l), FL 3 [.int .i64 a, .int .i64 b, .int .i64 c]]) (HP []) = some (.val (.bool (l.any (wwh [a, b, c]))), HP []) := wplb [a, b, c] (by simp) l hl
theorem ev_kids (r : Rx) (hl : r.kids.length ≤ 16000000) : lim Try.prog cfg (.call 115 [.agg ⟨rxC r⟩]) (HP []) = some (.val (.bool (wsq r)), HP []) := by
  refine wnb hc wpcb (Nat.le_of_ble_eq_true rfl) (Nat.le_of_ble_eq_true rfl) ?_
  unfold wcab wsq
  have hz : ∀ a b, eqcV true [.int .u64, .int .u64, .int .u64, .int .u64] (.agg ⟨setC a⟩) (.agg ⟨setC b⟩) = val (.bool (decide (a ≠ b))) := wtbc
  have h2 := ev_has2 2 3 r.kids hl
  have h3 := wkdc 3 r.kids hl
  have h4 := ev_has3 1 5 6 r.kids hl
  have h5 := ev_rep r
  generalize r.kids.any (wwh [2, 3]) = b2 at h2 ⊢
  generalize r.kids.any (wwh [3]) = b3 at h3 ⊢
  generalize r.kids.any (wwh [1, 5, 6]) = b4 at h4 ⊢
  generalize repF r = b5 at h5 ⊢
  (repeat' (first | (simp -implicitDefEqProofs (maxSteps := 2000000) (disch := first | with_reducible assumption | omega | (simp only [zS, zA, seval, zD] <;> omega) | fail) only [zS, argl, insA, Go.Den.wm, wo, wu, looks, wcb, wab, idOf, riA, seval, Go.Den.wh, kK, wxnb, wac, wmc, *, zT]) | (with_reducible (first | apply z1 | apply z2 | apply z3 | apply z4) <;> intro hq <;> (try simp only [zH] at hq) <;> (try (exfalso; omega)))))
  all_goals simp_all
theorem wmtb (l : List Rx) (hl : l.length ≤ 16000000) (hn : wwc l ≤ 1000000) (hk : ∀ r ∈ l, lim Try.prog cfg (.call 74 [.agg ⟨rxC r⟩]) (HP []) = some (.val (.int .i64 (wzc r)), HP [])) :
    ∀ (k i : Nat) (a : Int), i + k = l.length → 0 ≤ a → a + wwc (l.drop i) ≤ 2000000 →
    lim Try.prog cfg (.loop 74 0 (wnm 0) (SE (EJ 19 G0) [(9, .int .i64 i), (8, .int .i64 l.length), (7, FL l.length (rxsC l)), (3, .int .i64 a)])) (HP []) = some (.code (.exit 0) (SE (EJ 19 G0) [(3, .int .i64 (a + wwc (l.drop i)))]), HP []) := by
  intro k
  induction k with
  | zero =>
    intro i a hi h1 h2
    rw [List.drop_of_length_le (by omega), wwc]
    refine wbb wen ?_
    unfold wom
    clear hk
    (repeat' (first | (simp -implicitDefEqProofs (maxSteps := 2000000) (disch := first | with_reducible assumption | omega | (simp only [zS, zA, seval, zD] <;> omega) | fail) only [zS, argl, insA, Go.Den.wm, wo, wu, looks, wcb, wab, idOf, riA, seval, Go.Den.wh, kK, wtm, Int.natCast_zero, Int.add_zero, *, zT]) | (with_reducible (first | apply z1 | apply z2 | apply z3 | apply z4) <;> intro hq <;> (try simp only [zH] at hq) <;> (try (exfalso; omega)))))
  | succ k ih =>
    intro i a hi h1 h2
    rw [wpt l (by omega), wwc]
    have hr := hk _ (by rw [List.getD_eq_getElem?_getD, List.getElem?_eq_getElem (show i < l.length by omega)]; exact List.getElem_mem _ : l.getD i Rx.zero ∈ l)
    have hb : wzc (l.getD i Rx.zero) + wwc (l.drop (i + 1)) ≤ wwc l := by
      have := wltb l i
      rw [wpt l (by omega), wwc] at this
      exact this
    rw [wpt l (by omega), wwc] at h2
    have h := ih (i + 1) (a + wzc (l.getD i Rx.zero)) (by omega) (by omega) (by omega)
    rw [show a + ((wzc (l.getD i Rx.zero) + wwc (l.drop (i + 1)) : Nat) : Int) = a + (wzc (l.getD i Rx.zero) : Int) + (wwc (l.drop (i + 1)) : Int) by omega]
    refine wbb wen ?_
    unfold wom
    clear hk ih
    (repeat' (first | (simp -implicitDefEqProofs (maxSteps := 2000000) (disch := first | with_reducible assumption | omega | (simp only [zS, zA, seval, zD] <;> omega) | fail) only [zS, argl, insA, Go.Den.wm, wo, wu, looks, wcb, wab, idOf, riA, seval, Go.Den.wh, kK, wtm, *, zT]) | (with_reducible (first | apply z1 | apply z2 | apply z3 | apply z4) <;> intro hq <;> (try simp only [zH] at hq) <;> (try (exfalso; omega)))))
    exact h
theorem ev_Nodes : ∀ r : Rx, wzc r ≤ 1000000 → lim Try.prog cfg (.call 74 [.agg ⟨rxC r⟩]) (HP []) = some (.val (.int .i64 (wzc r)), HP []) := by
  refine Rx.rec (motive_1 := fun r => wzc r ≤ 1000000 → lim Try.prog cfg (.call 74 [.agg ⟨rxC r⟩]) (HP []) = some (.val (.int .i64 (wzc r)), HP [])) (motive_2 := fun l => wwc l ≤ 1000000 → ∀ r ∈ l, lim Try.prog cfg (.call 74 [.agg ⟨rxC r⟩]) (HP []) = some (.val (.int .i64 (wzc r)), HP [])) ?_ ?_ ?_
  · intro k mn mx n s l ih hn
    rw [wzc] at hn
    have hl := wqx l
    have h := wmtb l (by omega) (by omega) (ih (by omega)) l.length 0 1 (by omega) (by omega) (by rw [List.drop_zero]; omega)
    rw [List.drop_zero, show ((0 : Nat) : Int) = 0 from rfl] at h
    rw [wzc, show ((1 + wwc l : Nat) : Int) = 1 + (wwc l : Int) by omega]
    refine wnb hc wsy (Nat.le_of_ble_eq_true rfl) (Nat.le_of_ble_eq_true rfl) ?_
    unfold wfx
    clear ih
    (repeat' (first | (simp -implicitDefEqProofs (maxSteps := 2000000) (disch := first | with_reducible assumption | omega | (simp only [zS, zA, seval, zD] <;> omega) | fail) only [zS, argl, insA, Go.Den.wm, wo, wu, looks, wcb, wab, idOf, riA, seval, Go.Den.wh, kK, wtm, *, zT]) | (with_reducible (first | apply z1 | apply z2 | apply z3 | apply z4) <;> intro hq <;> (try simp only [zH] at hq) <;> (try (exfalso; omega)))))
  · intro _ r h; cases h
  · intro r l h1 h2 hn x hx
    rw [wwc] at hn
    rcases List.mem_cons.1 hx with rfl | hx
    · exact h1 (by omega)
    · exact h2 (by omega) x hx
theorem weab (r : Rx) (g : Int) : lim Try.prog cfg (.call 96 [.pointer (some ⟨0, 0, none⟩), .agg ⟨rxC r⟩]) (HP [X [.bool true, .int .i64 g] 165 0 true]) = some (.val (.bool true), HP [X [.bool true, .int .i64 g] 165 0 true]) := by
  refine wnb hc wqm (Nat.le_of_ble_eq_true rfl) (Nat.le_of_ble_eq_true rfl) ?_
  unfold woj
  (repeat' (first | (simp -implicitDefEqProofs (maxSteps := 2000000) (disch := first | with_reducible assumption | omega | (simp only [zS, zA, seval, zD] <;> omega) | fail) only [zS, argl, insA, Go.Den.wm, wo, wu, looks, wcb, wab, idOf, riA, seval, Go.Den.wh, kK, wac, wmc, *, zT]) | (with_reducible (first | apply z1 | apply z2 | apply z3 | apply z4) <;> intro hq <;> (try simp only [zH] at hq) <;> (try (exfalso; omega)))))
end
end Go.Proofs.Ytgpabbbibmnnlaa
namespace Go.Proofs.Ytgpabbbibmnnlaa
set_option linter.unusedVariables false
set_option linter.unusedSimpArgs false
open Go.Den
noncomputable section
mutual
def wli : Rx → Int → Int → Bool × Int
  | .mk k mn mx n s kids, d, g =>
    if wktb (.mk k mn mx n s kids) = true then
      if wsq (.mk k mn mx n s kids) = true then
        if k = 5 then (if n = g + 1 then (if d + 1 ≤ 6 then wkg kids (d + 1) (g + 1) else (false, g + 1)) else (false, g + 1))
        else if k = 6 then (decide (1 ≤ n) && decide (n ≤ g), g)
        else wkg kids d g
      else (false, g)
    else (false, g)
def wkg : List Rx → Int → Int → Bool × Int
  | [], _, g => (true, g)
  | r :: l, d, g => if (wli r d g).1 = true then wkg l d (wli r d g).2 else (false, (wli r d g).2)
end
theorem wcdb : ∀ (r : Rx) (d g : Int), g ≤ (wli r d g).2 ∧ (wli r d g).2 ≤ g + wzc r := by
  refine Rx.rec (motive_1 := fun r => ∀ (d g : Int), g ≤ (wli r d g).2 ∧ (wli r d g).2 ≤ g + wzc r) (motive_2 := fun l => ∀ (d g : Int), g ≤ (wkg l d g).2 ∧ (wkg l d g).2 ≤ g + wwc l) ?_ ?_ ?_
  · intro k mn mx n s l ih d g
    rw [wli, wzc]
    have h1 := ih (d + 1) (g + 1)
    have h2 := ih d g
    repeat' split
    all_goals first | (constructor <;> simp <;> omega) | omega
  · intro d g; rw [wkg, wwc]; exact ⟨Int.le_refl _, by simp⟩
  · intro r l h1 h2 d g
    rw [wkg, wwc]
    have h3 := h1 d g
    have h4 := h2 d (wli r d g).2
    split
    · omega
    · simp; omega
abbrev wkB (g : Int) : List ABlk := [X [.bool true, .int .i64 g] 165 0 true]
def wddb (w : Bool × Int) : Option (Out × AH) := if w.1 = true then some (.code (.exit 1) (SE (EJ 89 G0) [(6, JK)]), HP (wkB w.2)) else some (.code .ret (SE (EJ 89 G0) [(6, .bool false)]), HP (wkB w.2))
theorem ej89 : (EJ 89 G0).get 6 = JK := rfl
def wfab (r : Rx) : Prop := ∀ d g : Int, 0 ≤ d → d ≤ 1000 → 0 ≤ g → g + wzc r ≤ 2000000 → lim Try.prog cfg (.call 97 [.pointer (some ⟨0, 0, none⟩), .agg ⟨rxC r⟩, .int .i64 d]) (HP (wkB g)) = some (.val (.bool (wli r d g).1), HP (wkB (wli r d g).2))
theorem wzgb (l : List Rx) (hl : l.length ≤ 16000000) (hk : ∀ r ∈ l, wfab r) (d : Int) (hd : 0 ≤ d) (hd2 : d ≤ 1000) :
    ∀ (k i : Nat) (g : Int), i + k = l.length → 0 ≤ g → g + wwc (l.drop i) ≤ 2000000 →
    lim Try.prog cfg (.loop 97 1 (wog 0) (SE (EJ 89 G0) [(79, .int .i64 i), (78, .int .i64 l.length), (77, FL l.length (rxsC l)), (2, .int .i64 d), (0, .pointer (some ⟨0, 0, none⟩))])) (HP (wkB g)) = wddb (wkg (l.drop i) d g) := by
  intro k
  induction k with
  | zero =>
    intro i g hi h1 h2
    rw [List.drop_of_length_le (by omega), wkg, wddb, if_pos rfl]
    refine wbb whe ?_
    unfold wfe
    clear hk
    (repeat' (first | (simp -implicitDefEqProofs (maxSteps := 2000000) (disch := first | with_reducible assumption | omega | (simp only [zS, zA, seval, wdb, wib, zD] <;> omega) | fail) only [zS, argl, insA, Go.Den.wm, wo, wu, looks, wcb, wab, idOf, riA, seval, Go.Den.wh, kK, wsb, wdb, wib, ej89, *, zT]) | (with_reducible (first | apply z1 | apply z2 | apply z3 | apply z4) <;> intro hq <;> (try simp only [zH] at hq) <;> (try (exfalso; omega)))))
  | succ k ih =>
    intro i g hi h1 h2
    rw [wpt l (by omega), wwc] at h2
    rw [wpt l (by omega), wkg]
    have hr := hk _ (by rw [List.getD_eq_getElem?_getD, List.getElem?_eq_getElem (show i < l.length by omega)]; exact List.getElem_mem _ : l.getD i Rx.zero ∈ l) d g hd hd2 h1 (by omega)
    have hw := wcdb (l.getD i Rx.zero) d g
    have h := ih (i + 1) (wli (l.getD i Rx.zero) d g).2 (by omega) (by omega) (by omega)
    generalize wli (l.getD i Rx.zero) d g = w at hr hw h ⊢
    obtain ⟨b, g2⟩ := w
    clear hk ih
    cases b with
    | false =>
      rw [if_neg (by simp), wddb, if_neg (by simp)]
      clear h
      refine wbb whe ?_
      unfold wfe
      (repeat' (first | (simp -implicitDefEqProofs (maxSteps := 2000000) (disch := first | with_reducible assumption | omega | (simp only [zS, zA, seval, zD] <;> omega) | fail) only [zS, argl, insA, Go.Den.wm, wo, wu, looks, wcb, wab, idOf, riA, seval, Go.Den.wh, kK, wsb, *, zT]) | (with_reducible (first | apply z1 | apply z2 | apply z3 | apply z4) <;> intro hq <;> (try simp only [zH] at hq) <;> (try (exfalso; omega)))))
    | true =>
      rw [if_pos rfl]
      generalize wkg (l.drop (i + 1)) d (true, g2).2 = w2 at h ⊢
      obtain ⟨b2, g3⟩ := w2
      cases b2 with
      | true =>
        rw [wddb, if_pos rfl] at h ⊢
        refine wbb whe ?_
        unfold wfe
        (repeat' (first | (simp -implicitDefEqProofs (maxSteps := 2000000) (disch := first | with_reducible assumption | omega | (simp only [zS, zA, seval, wdb, wib, zD] <;> omega) | fail) only [zS, argl, insA, Go.Den.wm, wo, wu, looks, wcb, wab, idOf, riA, seval, Go.Den.wh, kK, wsb, wdb, wib, ej89, *, zT]) | (with_reducible (first | apply z1 | apply z2 | apply z3 | apply z4) <;> intro hq <;> (try simp only [zH] at hq) <;> (try (exfalso; omega)))))
        exact h
      | false =>
        rw [wddb, if_neg (by simp)] at h ⊢
        refine wbb whe ?_
        unfold wfe
        (repeat' (first | (simp -implicitDefEqProofs (maxSteps := 2000000) (disch := first | with_reducible assumption | omega | (simp only [zS, zA, seval, wdb, wib, zD] <;> omega) | fail) only [zS, argl, insA, Go.Den.wm, wo, wu, looks, wcb, wab, idOf, riA, seval, Go.Den.wh, kK, wsb, wdb, wib, ej89, *, zT]) | (with_reducible (first | apply z1 | apply z2 | apply z3 | apply z4) <;> intro hq <;> (try simp only [zH] at hq) <;> (try (exfalso; omega)))))
        exact h
end
end Go.Proofs.Ytgpabbbibmnnlaa
namespace Go.Proofs.Ytgpabbbibmnnlaa
set_option linter.unusedVariables false
set_option linter.unusedSimpArgs false
open Go.Den
noncomputable section
set_option maxHeartbeats 4000000 in
theorem wldc (k mn mx n : Int) (set : BitVec 256) (kids : List Rx) (hl : kids.length ≤ 16000000) (ih : ∀ r ∈ kids, wfab r) : wfab (.mk k mn mx n set kids) := by
  intro d g hd hd2 hg hgn
  rw [wzc] at hgn
  have hb := ev_bare (.mk k mn mx n set kids)
  have hk := ev_kids (.mk k mn mx n set kids) hl
  rw [wli]
  refine wnb hc wrp (Nat.le_of_ble_eq_true rfl) (Nat.le_of_ble_eq_true rfl) ?_
  unfold wpl
  cases hbv : wktb (.mk k mn mx n set kids) with
  | false =>
    rw [if_neg (by simp)]
    rw [hbv] at hb
    clear hk ih hbv
    (repeat' (first | (simp -implicitDefEqProofs (maxSteps := 2000000) (disch := first | with_reducible assumption | omega | (simp only [zS, zA, seval, zD] <;> omega) | fail) only [zS, argl, insA, Go.Den.wm, wo, wu, looks, wcb, wab, idOf, riA, seval, Go.Den.wh, kK, wsb, wac, wmc, *, zT]) | (with_reducible (first | apply z1 | apply z2 | apply z3 | apply z4) <;> intro hq <;> (try simp only [zH] at hq) <;> (try (exfalso; omega))) | (with_reducible apply z5; (case hl => (repeat (first | exact .nil | with_reducible apply z6 | with_reducible apply z7))); (case h => kernel_rfl))))
  | true =>
  rw [if_pos rfl]
  rw [hbv] at hb
  clear hbv
  cases hkv : wsq (.mk k mn mx n set kids) with
  | false =>
    rw [if_neg (by simp)]
    rw [hkv] at hk
    clear ih hkv
    (repeat' (first | (simp -implicitDefEqProofs (maxSteps := 2000000) (disch := first | with_reducible assumption | omega | (simp only [zS, zA, seval, zD] <;> omega) | fail) only [zS, argl, insA, Go.Den.wm, wo, wu, looks, wcb, wab, idOf, riA, seval, Go.Den.wh, kK, wsb, wac, wmc, *, zT]) | (with_reducible (first | apply z1 | apply z2 | apply z3 | apply z4) <;> intro hq <;> (try simp only [zH] at hq) <;> (try (exfalso; omega))) | (with_reducible apply z5; (case hl => (repeat (first | exact .nil | with_reducible apply z6 | with_reducible apply z7))); (case h => kernel_rfl))))
  | true =>
  rw [if_pos rfl]
  rw [hkv] at hk
  by_cases h5 : k = 5
  · subst h5
    rw [if_pos rfl]
    have hlen : kids.length = 1 := by
      have h3 : decide ((kids.length : Int) = 1) = true := hkv
      rw [decide_eq_true_eq] at h3
      omega
    have hs : slotsOf (rxsC kids) 0 9 = rxC (kids.getD 0 Rx.zero) := by
      have := wjs (l := kids) (i := 0) (by omega)
      rwa [Nat.zero_mul] at this
    have hcl : 9 ≤ (rxsC kids).length := by rw [wucb, hlen]; omega
    have hz : 0 < kids.length := by omega
    have ha := weab (kids.getD 0 Rx.zero) (g + 1)
    clear hkv hlen
    by_cases hn : n = g + 1
    · rw [if_pos hn]
      by_cases hd6 : d + 1 ≤ 6
      · rw [if_pos hd6]
        have h := wzgb kids hl ih (d + 1) (by omega) (by omega) kids.length 0 (g + 1) (by omega) (by omega) (by rw [List.drop_zero]; omega)
        rw [List.drop_zero, show ((0 : Nat) : Int) = 0 from rfl] at h
        generalize wkg kids (d + 1) (g + 1) = w at h ⊢
        obtain ⟨b, g2⟩ := w
        clear ih
        subst hn
        cases b with
        | true =>
          rw [wddb, if_pos rfl] at h
          (repeat' (first | (simp -implicitDefEqProofs (maxSteps := 2000000) (disch := first | with_reducible assumption | omega | (simp only [zS, zA, seval, wdb, wib, zD] <;> omega) | fail) only [zS, argl, insA, Go.Den.wm, wo, wu, looks, wcb, wab, idOf, riA, seval, Go.Den.wh, kK, wsb, wac, wmc, wdb, wib, ej89, *, zT]) | (with_reducible (first | apply z1 | apply z2 | apply z3 | apply z4) <;> intro hq <;> (try simp only [zH] at hq) <;> (try (exfalso; omega))) | (with_reducible apply z5; (case hl => (repeat (first | exact .nil | with_reducible apply z6 | with_reducible apply z7))); (case h => kernel_rfl))))
        | false =>
          rw [wddb, if_neg (by simp)] at h
          (repeat' (first | (simp -implicitDefEqProofs (maxSteps := 2000000) (disch := first | with_reducible assumption | omega | (simp only [zS, zA, seval, wdb, wib, zD] <;> omega) | fail) only [zS, argl, insA, Go.Den.wm, wo, wu, looks, wcb, wab, idOf, riA, seval, Go.Den.wh, kK, wsb, wac, wmc, wdb, wib, ej89, *, zT]) | (with_reducible (first | apply z1 | apply z2 | apply z3 | apply z4) <;> intro hq <;> (try simp only [zH] at hq) <;> (try (exfalso; omega))) | (with_reducible apply z5; (case hl => (repeat (first | exact .nil | with_reducible apply z6 | with_reducible apply z7))); (case h => kernel_rfl))))
      · rw [if_neg hd6]
        clear ih
        subst hn
        (repeat' (first | (simp -implicitDefEqProofs (maxSteps := 2000000) (disch := first | with_reducible assumption | omega | (simp only [zS, zA, seval, zD] <;> omega) | fail) only [zS, argl, insA, Go.Den.wm, wo, wu, looks, wcb, wab, idOf, riA, seval, Go.Den.wh, kK, wsb, wac, wmc, *, zT]) | (with_reducible (first | apply z1 | apply z2 | apply z3 | apply z4) <;> intro hq <;> (try simp only [zH] at hq) <;> (try (exfalso; omega))) | (with_reducible apply z5; (case hl => (repeat (first | exact .nil | with_reducible apply z6 | with_reducible apply z7))); (case h => kernel_rfl))))
    · rw [if_neg hn]
      clear ih
      (repeat' (first | (simp -implicitDefEqProofs (maxSteps := 2000000) (disch := first | with_reducible assumption | omega | (simp only [zS, zA, seval, zD] <;> omega) | fail) only [zS, argl, insA, Go.Den.wm, wo, wu, looks, wcb, wab, idOf, riA, seval, Go.Den.wh, kK, wsb, wac, wmc, *, zT]) | (with_reducible (first | apply z1 | apply z2 | apply z3 | apply z4) <;> intro hq <;> (try simp only [zH] at hq) <;> (try (exfalso; omega))) | (with_reducible apply z5; (case hl => (repeat (first | exact .nil | with_reducible apply z6 | with_reducible apply z7))); (case h => kernel_rfl))))
  rw [if_neg h5]
  clear hkv
  by_cases h6 : k = 6
  · subst h6
    rw [if_pos rfl]
    clear ih
    (repeat' (first | (simp -implicitDefEqProofs (maxSteps := 2000000) (disch := first | with_reducible assumption | omega | (simp only [zS, zA, seval, zD] <;> omega) | fail) only [zS, argl, insA, Go.Den.wm, wo, wu, looks, wcb, wab, idOf, riA, seval, Go.Den.wh, kK, wsb, wac, wmc, *, zT]) | (with_reducible (first | apply z1 | apply z2 | apply z3 | apply z4) <;> intro hq <;> (try simp only [zH] at hq) <;> (try (exfalso; omega))) | (with_reducible apply z5; (case hl => (repeat (first | exact .nil | with_reducible apply z6 | with_reducible apply z7))); (case h => kernel_rfl))))
  rw [if_neg h6]
  have h := wzgb kids hl ih d (by omega) (by omega) kids.length 0 g (by omega) (by omega) (by rw [List.drop_zero]; omega)
  rw [List.drop_zero, show ((0 : Nat) : Int) = 0 from rfl] at h
  generalize wkg kids d g = w at h ⊢
  obtain ⟨b, g2⟩ := w
  clear ih
  cases b with
  | true =>
    rw [wddb, if_pos rfl] at h
    (repeat' (first | (simp -implicitDefEqProofs (maxSteps := 2000000) (disch := first | with_reducible assumption | omega | (simp only [zS, zA, seval, wdb, wib, zD] <;> omega) | fail) only [zS, argl, insA, Go.Den.wm, wo, wu, looks, wcb, wab, idOf, riA, seval, Go.Den.wh, kK, wsb, wac, wmc, wdb, wib, ej89, *, zT]) | (with_reducible (first | apply z1 | apply z2 | apply z3 | apply z4) <;> intro hq <;> (try simp only [zH] at hq) <;> (try (exfalso; omega))) | (with_reducible apply z5; (case hl => (repeat (first | exact .nil | with_reducible apply z6 | with_reducible apply z7))); (case h => kernel_rfl))))
  | false =>
    rw [wddb, if_neg (by simp)] at h
    (repeat' (first | (simp -implicitDefEqProofs (maxSteps := 2000000) (disch := first | with_reducible assumption | omega | (simp only [zS, zA, seval, wdb, wib, zD] <;> omega) | fail) only [zS, argl, insA, Go.Den.wm, wo, wu, looks, wcb, wab, idOf, riA, seval, Go.Den.wh, kK, wsb, wac, wmc, wdb, wib, ej89, *, zT]) | (with_reducible (first | apply z1 | apply z2 | apply z3 | apply z4) <;> intro hq <;> (try simp only [zH] at hq) <;> (try (exfalso; omega))) | (with_reducible apply z5; (case hl => (repeat (first | exact .nil | with_reducible apply z6 | with_reducible apply z7))); (case h => kernel_rfl))))
theorem ev_walk : ∀ r : Rx, wzc r ≤ 1000000 → wfab r := by
  refine Rx.rec (motive_1 := fun r => wzc r ≤ 1000000 → wfab r) (motive_2 := fun l => wwc l ≤ 1000000 → ∀ r ∈ l, wfab r) ?_ ?_ ?_
  · intro k mn mx n s l ih hn
    rw [wzc] at hn
    have hl := wqx l
    exact wldc k mn mx n s l (by omega) (ih (by omega))
  · intro _ r h; cases h
  · intro r l h1 h2 hn x hx
    rw [wwc] at hn
    rcases List.mem_cons.1 hx with rfl | hx
    · exact h1 (by omega)
    · exact h2 (by omega) x hx
def wpo (r : Rx) : Bool := decide (wzc r ≤ 40) && ((wli r 0 0).1 && decide ((wli r 0 0).2 ≤ 3))
theorem wynb (r : Rx) (hn : wzc r ≤ 1000000) : lim Try.prog cfg (.call 69 [.agg ⟨rxC r⟩, .bool true]) (HP []) = some (.val (.bool (wpo r)), HP []) := by
  have h1 := ev_Nodes r hn
  have h2 := weab r 0
  have h3 := ev_walk r hn 0 0 (by omega) (by omega) (by omega) (by omega)
  unfold wpo
  generalize wli r 0 0 = w at h3 ⊢
  obtain ⟨b, g⟩ := w
  refine wnb hc wry (Nat.le_of_ble_eq_true rfl) (Nat.le_of_ble_eq_true rfl) ?_
  unfold wex
  by_cases hq : wzc r ≤ 40
  · have hq2 : (wzc r : Int) ≤ 40 := by omega
    rw [decide_eq_true hq]
    cases b with
    | false => (repeat' (first | (simp -implicitDefEqProofs (maxSteps := 2000000) (disch := first | with_reducible assumption | omega | (simp only [zS, zA, seval, zD] <;> omega) | fail) only [zS, argl, insA, Go.Den.wm, wo, wu, looks, wcb, wab, idOf, riA, seval, Go.Den.wh, kK, wac, wmc, *, zT]) | (with_reducible (first | apply z1 | apply z2 | apply z3 | apply z4) <;> intro hq <;> (try simp only [zH] at hq) <;> (try (exfalso; omega))))); all_goals trace_state
    | true => (repeat' (first | (simp -implicitDefEqProofs (maxSteps := 2000000) (disch := first | with_reducible assumption | omega | (simp only [zS, zA, seval, zD] <;> omega) | fail) only [zS, argl, insA, Go.Den.wm, wo, wu, looks, wcb, wab, idOf, riA, seval, Go.Den.wh, kK, wac, wmc, *, zT]) | (with_reducible (first | apply z1 | apply z2 | apply z3 | apply z4) <;> intro hq <;> (try simp only [zH] at hq) <;> (try (exfalso; omega))))); all_goals trace_state
  · have hq2 : ¬ (wzc r : Int) ≤ 40 := by omega
    rw [decide_eq_false hq]
    (repeat' (first | (simp -implicitDefEqProofs (maxSteps := 2000000) (disch := first | with_reducible assumption | omega | (simp only [zS, zA, seval, zD] <;> omega) | fail) only [zS, argl, insA, Go.Den.wm, wo, wu, looks, wcb, wab, idOf, riA, seval, Go.Den.wh, kK, wac, wmc, *, zT]) | (with_reducible (first | apply z1 | apply z2 | apply z3 | apply z4) <;> intro hq <;> (try simp only [zH] at hq) <;> (try (exfalso; omega)))))
end
end Go.Proofs.Ytgpabbbibmnnlaa
namespace Go.Proofs.Ytgpabbbibmnnlaa
set_option linter.unusedVariables false
set_option linter.unusedSimpArgs false
open Go.Den
noncomputable section
theorem wmdc {k mn mx n : Int} {s : BitVec 256} {l : List Rx} (h : wsq (.mk k mn mx n s l) = true) :
    (k = 5 → l ≠ []) ∧ (k = 4 → l ≠ [] ∧ 0 ≤ mn ∧ mn ≤ 20 ∧ -1 ≤ mx ∧ mx ≤ 20) := by
  constructor
  · intro h5; subst h5
    have h3 : decide ((l.length : Int) = 1) = true := h
    rw [decide_eq_true_eq] at h3
    intro he; subst he; simp at h3
  · intro h4; subst h4
    have h3 : (decide ((l.length : Int) = 1) && (l.any (wwh [1, 5, 6]) && repF (.mk 4 mn mx n s l))) = true := h
    rw [Bool.and_eq_true, Bool.and_eq_true, decide_eq_true_eq] at h3
    have h5 : (decide (0 ≤ mn) && (decide (mn ≤ 20) && (decide (mx = -1) || (decide (max mn 1 ≤ mx) && decide (mx ≤ 20))))) = true := h3.2.2
    simp only [Bool.and_eq_true, Bool.or_eq_true, decide_eq_true_eq] at h5
    refine ⟨fun he => by subst he; simp at h3, h5.1, h5.2.1, ?_, ?_⟩ <;> omega
theorem walk_ok : ∀ (r : Rx) (d g : Int), 0 ≤ g → (wli r d g).1 = true → (wli r d g).2 ≤ 3 → okR r = true := by
  refine Rx.rec (motive_1 := fun r => ∀ (d g : Int), 0 ≤ g → (wli r d g).1 = true → (wli r d g).2 ≤ 3 → okR r = true) (motive_2 := fun l => ∀ (d g : Int), 0 ≤ g → (wkg l d g).1 = true → (wkg l d g).2 ≤ 3 → okRs l = true) ?_ ?_ ?_
  · intro k mn mx n s l ih d g hg h1 h2
    have hle : ∀ d g, g ≤ (wkg l d g).2 := by
      clear ih h1 h2 hg
      induction l with
      | nil => intro d g; rw [wkg]; exact Int.le_refl _
      | cons a l ih =>
        intro d g
        rw [wkg]
        have := (wcdb a d g).1
        split
        · have := ih d (wli a d g).2; omega
        · exact this
    rw [wli] at h1 h2
    rw [okR, Bool.and_eq_true]
    by_cases hb : wktb (.mk k mn mx n s l) = true
    · rw [if_pos hb] at h1 h2
      by_cases hk : wsq (.mk k mn mx n s l) = true
      · rw [if_pos hk] at h1 h2
        have ⟨k5, k4⟩ := wmdc hk
        by_cases h5 : k = 5
        · rw [if_pos h5] at h1 h2
          rw [if_pos h5]
          by_cases hn : n = g + 1
          · rw [if_pos hn] at h1 h2
            by_cases hd : d + 1 ≤ 6
            · rw [if_pos hd] at h1 h2
              have := hle (d + 1) (g + 1)
              refine ⟨?_, ih _ _ (by omega) h1 h2⟩
              simp only [Bool.and_eq_true, decide_eq_true_eq]
              exact ⟨k5 h5, by omega, by omega⟩
            · rw [if_neg hd] at h1; cases h1
          · rw [if_neg hn] at h1; cases h1
        · rw [if_neg h5] at h1 h2 ⊢
          by_cases h6 : k = 6
          · rw [if_pos h6] at h1 h2
            rw [if_neg (by omega), if_pos h6]
            simp only [Bool.and_eq_true, decide_eq_true_eq] at h1 ⊢
            have hl0 : l = [] := by
              subst h6
              have h3 : decide ((l.length : Int) = 0) = true := hk
              rw [decide_eq_true_eq] at h3
              exact List.eq_nil_of_length_eq_zero (by omega)
            subst hl0
            exact ⟨⟨h1.1, by simp only at h2; omega⟩, by rw [okRs]⟩
          · rw [if_neg h6] at h1 h2 ⊢
            refine ⟨?_, ih _ _ hg h1 h2⟩
            by_cases h4 : k = 4
            · rw [if_pos h4]
              simp only [Bool.and_eq_true, decide_eq_true_eq]
              exact k4 h4
            · rw [if_neg h4]
      · rw [if_neg hk] at h1; cases h1
    · rw [if_neg hb] at h1; cases h1
  · intro _ _ _ _ _; rw [okRs]
  · intro r l h1 h2 d g hg h3 h4
    rw [wkg] at h3 h4
    have hw := wcdb r d g
    by_cases hr : (wli r d g).1 = true
    · rw [if_pos hr] at h3 h4
      have hle : ∀ (l : List Rx) (d g : Int), g ≤ (wkg l d g).2 := by
        intro l
        induction l with
        | nil => intro d g; rw [wkg]; exact Int.le_refl _
        | cons a l ih =>
          intro d g
          rw [wkg]
          have := (wcdb a d g).1
          split
          · have := ih d (wli a d g).2; omega
          · exact this
      have := hle l d (wli r d g).2
      rw [okRs, Bool.and_eq_true]
      exact ⟨h1 d g hg hr (by omega), h2 d _ (by omega) h3 h4⟩
    · rw [if_neg hr] at h3; cases h3
theorem wedb {r : Rx} (h : wpo r = true) : okR r = true := by
  rw [wpo, Bool.and_eq_true, Bool.and_eq_true, decide_eq_true_eq, decide_eq_true_eq] at h
  exact walk_ok r 0 0 (Int.le_refl _) h.2.1 h.2.2
theorem ev_ways (s : List UInt8) (bol : Bool) (hs : s.length ≤ 12) : ∀ r : Rx, wzc r ≤ 1000000 → okR r = true → wfdc s bol r := by
  refine Rx.rec (motive_1 := fun r => wzc r ≤ 1000000 → okR r = true → wfdc s bol r) (motive_2 := fun l => wwc l ≤ 1000000 → okRs l = true → wxgb s bol l) ?_ ?_ ?_
  · intro k mn mx n set l ih hn hok
    rw [wzc] at hn
    have hl := wqx l
    refine wgdc s bol hs k mn mx n set l (by omega) hok (ih (by omega) ?_)
    rw [okR, Bool.and_eq_true] at hok
    exact hok.2
  · intro _ _ r h; cases h
  · intro r l h1 h2 hn hok x hx
    rw [wwc] at hn
    rw [okRs, Bool.and_eq_true] at hok
    rcases List.mem_cons.1 hx with rfl | hx
    · intro y hy
      exact ⟨wqs (s := s) rfl (bol := bol) _ hok.1 y hy, h1 (by omega) hok.1 y hy⟩
    · exact h2 (by omega) hok.2 x hx
theorem wndc {len : Nat} {a : Int} (h1 : 0 ≤ a) (h2 : a ≤ len) : GdS len (a, wbl) := by
  refine ⟨h1, h2, rfl, rfl, fun g g1 g3 => .inl ?_⟩
  rcases (show g = 1 ∨ g = 2 ∨ g = 3 by omega) with rfl | rfl | rfl <;> exact ⟨rfl, rfl⟩
def wlk (r : Rx) (s : List UInt8) (bol : Bool) (a : Int) : List St := if wpo r = true ∧ 0 ≤ a ∧ a ≤ s.length then wcf s bol r (a, wbl) else []
theorem wgab {r : Rx} {s : List UInt8} {bol : Bool} {a : Int} : RwS s.length a (wlk r s bol a) := by
  unfold wlk
  split
  · rename_i h
    exact wqs (s := s) rfl (bol := bol) r (wedb h.1) (a, wbl) (wndc h.2.1 h.2.2)
  · exact .nil
theorem ev_Ways (r : Rx) (hn : wzc r ≤ 1000000) (s : List UInt8) (hs : s.length ≤ 12) (bol : Bool) (a : Int) : lim Try.prog cfg (.call 36 [.agg ⟨rxC r⟩, str s, .bool bol, .int .i64 a]) (HP []) = some (.val (FL (wlk r s bol a).length (stsC (wlk r s bol a))), HP []) := by
  have h := wynb r hn
  refine wnb hc wqy (Nat.le_of_ble_eq_true rfl) (Nat.le_of_ble_eq_true rfl) ?_
  unfold wdx wlk
  have h0 := wqcc
  cases hr : wpo r with
  | false =>
    rw [if_neg (by simp)]
    rw [hr] at h
    clear hr h0
    (repeat' (first | (simp -implicitDefEqProofs (maxSteps := 2000000) (disch := first | with_reducible assumption | omega | (simp only [zS, zA, seval, zD] <;> omega) | fail) only [zS, argl, insA, Go.Den.wm, wo, wu, looks, wcb, wab, idOf, riA, seval, Go.Den.wh, kK, wac, wmc, *, zT]) | (with_reducible (first | apply z1 | apply z2 | apply z3 | apply z4) <;> intro hq <;> (try simp only [zH] at hq) <;> (try (exfalso; omega))) | (with_reducible apply z5; (case hl => (repeat (first | exact .nil | with_reducible apply z6 | with_reducible apply z7))); (case h => kernel_rfl))))
  | true =>
    rw [hr] at h
    by_cases h1 : 0 ≤ a
    · by_cases h2 : a ≤ s.length
      · rw [if_pos ⟨rfl, h1, h2⟩]
        have hw := ev_ways s bol hs r hn (wedb hr) (a, wbl) (wndc h1 h2)
        rw [← st_fold] at hw
        clear hr
        (repeat' (first | (simp -implicitDefEqProofs (maxSteps := 2000000) (disch := first | with_reducible assumption | omega | (simp only [zS, zA, seval, zD] <;> omega) | fail) only [zS, argl, insA, Go.Den.wm, wo, wu, looks, wcb, wab, idOf, riA, seval, Go.Den.wh, kK, wac, wmc, *, zT]) | (with_reducible (first | apply z1 | apply z2 | apply z3 | apply z4) <;> intro hq <;> (try simp only [zH] at hq) <;> (try (exfalso; omega))) | (with_reducible apply z5; (case hl => (repeat (first | exact .nil | with_reducible apply z6 | with_reducible apply z7))); (case h => kernel_rfl))))
      · rw [if_neg (fun h => h2 h.2.2)]
        clear hr h0
        (repeat' (first | (simp -implicitDefEqProofs (maxSteps := 2000000) (disch := first | with_reducible assumption | omega | (simp only [zS, zA, seval, zD] <;> omega) | fail) only [zS, argl, insA, Go.Den.wm, wo, wu, looks, wcb, wab, idOf, riA, seval, Go.Den.wh, kK, wac, wmc, *, zT]) | (with_reducible (first | apply z1 | apply z2 | apply z3 | apply z4) <;> intro hq <;> (try simp only [zH] at hq) <;> (try (exfalso; omega))) | (with_reducible apply z5; (case hl => (repeat (first | exact .nil | with_reducible apply z6 | with_reducible apply z7))); (case h => kernel_rfl))))
    · rw [if_neg (fun h => h1 h.2.1)]
      clear hr h0
      (repeat' (first | (simp -implicitDefEqProofs (maxSteps := 2000000) (disch := first | with_reducible assumption | omega | (simp only [zS, zA, seval, zD] <;> omega) | fail) only [zS, argl, insA, Go.Den.wm, wo, wu, looks, wcb, wab, idOf, riA, seval, Go.Den.wh, kK, wac, wmc, *, zT]) | (with_reducible (first | apply z1 | apply z2 | apply z3 | apply z4) <;> intro hq <;> (try simp only [zH] at hq) <;> (try (exfalso; omega))) | (with_reducible apply z5; (case hl => (repeat (first | exact .nil | with_reducible apply z6 | with_reducible apply z7))); (case h => kernel_rfl))))
end
end Go.Proofs.Ytgpabbbibmnnlaa
namespace Go.Proofs.Ytgpabbbibmnnlaa
set_option linter.unusedVariables false
set_option linter.unusedSimpArgs false
open Go.Den
noncomputable section
def wqo : List St → Option St → Option St
  | [], b => b
  | x :: l, none => wqo l (some x)
  | x :: l, some b => wqo l (if x.1 > b.1 then some x else some b)
def bst (b : Option St) : St := b.getD St.zero
abbrev fiB (r : Rx) (b : Option St) : List ABlk := [X (rxC r) 47 0 true, X (mtC Mt.zero) 53 0 true, X (stC (bst b)) 87 0 true]
theorem first_in (r : Rx) (s : List UInt8) (a : Int) (l : List St) (hl : l.length ≤ 16000000) : ∀ (k i : Nat) (b : Option St), i + k = l.length →
    lim Try.prog cfg (.loop 27 0 (wle 1) (SE (EJ 70 G0) [(45, .int .i64 i), (44, .int .i64 l.length), (43, FL l.length (stsC l)), (10, .bool b.isSome), (9, .pointer (some ⟨2, 0, none⟩)), (8, .int .i64 a), (6, .pointer (some ⟨1, 0, none⟩)), (3, .pointer (some ⟨0, 0, none⟩)), (1, str s)])) (HP (fiB r b)) = some (.code (.exit 2) (SE (EJ 70 G0) [(10, .bool (wqo (l.drop i) b).isSome), (9, .pointer (some ⟨2, 0, none⟩)), (8, .int .i64 a), (6, .pointer (some ⟨1, 0, none⟩)), (3, .pointer (some ⟨0, 0, none⟩)), (1, str s)]), HP (fiB r (wqo (l.drop i) b))) := by
  intro k
  induction k with
  | zero =>
    intro i b hi
    rw [List.drop_of_length_le (by omega), wqo]
    refine wbb wzf ?_
    unfold wfg
    (repeat' (first | (simp -implicitDefEqProofs (maxSteps := 2000000) (disch := first | with_reducible assumption | omega | (simp only [zS, zA, seval, wlu, wff, zD] <;> omega) | fail) only [zS, argl, insA, Go.Den.wm, wo, wu, looks, wcb, wab, idOf, riA, seval, Go.Den.wh, kK, wge, *, zT]) | (with_reducible (first | apply z1 | apply z2 | apply z3 | apply z4) <;> intro hq <;> (try simp only [zH] at hq) <;> (try (exfalso; omega)))))
  | succ k ih =>
    intro i b hi
    rw [wjg l (by omega)]
    cases b with
    | none =>
      have h := ih (i + 1) (some (l.getD i St.zero)) (by omega)
      rw [wqo]
      clear ih
      refine wbb wzf ?_
      unfold wfg
      (repeat' (first | (simp -implicitDefEqProofs (maxSteps := 2000000) (disch := first | with_reducible assumption | omega | (simp only [zS, zA, seval, wlu, wff, zD] <;> omega) | fail) only [zS, argl, insA, Go.Den.wm, wo, wu, looks, wcb, wab, idOf, riA, seval, Go.Den.wh, kK, wge, wac, wmc, Option.isSome_none, *, zT]) | (with_reducible (first | apply z1 | apply z2 | apply z3 | apply z4) <;> intro hq <;> (try simp only [zH] at hq) <;> (try (exfalso; omega)))))
      exact h
    | some b =>
      rw [wqo]
      by_cases hq : (l.getD i St.zero).1 > b.1
      · rw [if_pos hq]
        have h := ih (i + 1) (some (l.getD i St.zero)) (by omega)
        clear ih
        refine wbb wzf ?_
        unfold wfg
        (repeat' (first | (simp -implicitDefEqProofs (maxSteps := 2000000) (disch := first | with_reducible assumption | omega | (simp only [zS, zA, seval, wlu, wff, zD] <;> omega) | fail) only [zS, argl, insA, Go.Den.wm, wo, wu, looks, wcb, wab, idOf, riA, seval, Go.Den.wh, kK, wge, wac, wmc, bst, Option.getD_some, *, zT]) | (with_reducible (first | apply z1 | apply z2 | apply z3 | apply z4) <;> intro hq <;> (try simp only [zH] at hq) <;> (try (exfalso; omega)))))
        exact h
      · rw [if_neg hq]
        have h := ih (i + 1) (some b) (by omega)
        clear ih
        refine wbb wzf ?_
        unfold wfg
        (repeat' (first | (simp -implicitDefEqProofs (maxSteps := 2000000) (disch := first | with_reducible assumption | omega | (simp only [zS, zA, seval, wlu, wff, zD] <;> omega) | fail) only [zS, argl, insA, Go.Den.wm, wo, wu, looks, wcb, wab, idOf, riA, seval, Go.Den.wh, kK, wge, wac, wmc, bst, Option.getD_some, *, zT]) | (with_reducible (first | apply z1 | apply z2 | apply z3 | apply z4) <;> intro hq <;> (try simp only [zH] at hq) <;> (try (exfalso; omega)))))
        exact h
end
end Go.Proofs.Ytgpabbbibmnnlaa
namespace Go.Proofs.Ytgpabbbibmnnlaa
set_option linter.unusedVariables false
set_option linter.unusedSimpArgs false
open Go.Den
noncomputable section
def wsl (r : Rx) (s : List UInt8) : Nat → Int → Option Mt
  | 0, _ => none
  | k + 1, a => match wqo (wlk r s true a) none with
    | some b => some ((b.2.put 0 a).put 1 b.1)
    | none => wsl r s k (a + 1)
def firO : Option Mt → Option (Out × AH)
  | none => some (.code (.exit 0) (SE (EJ 70 G0) [(7, JK), (6, .pointer (some ⟨0, 0, none⟩))]), HP [X (mtC Mt.zero) 53 0 true])
  | some m => some (.code .ret (SE (EJ 70 G0) [(7, .bool true), (6, .pointer (some ⟨0, 0, none⟩))]), HP [X (mtC m) 53 0 true])
theorem st_set12 {b : St} {x y : Int} : ((stC b).set 1 (.int .i64 x)).set 2 (.int .i64 y) = stC (b.1, (b.2.put 0 x).put 1 y) := by
  show (Value.int .i64 b.1 :: ((mtC b.2).set 0 _).set 1 _) = _
  rw [wvbc, wvbc]; rfl
theorem ej70 : (EJ 70 G0).get 7 = JK := rfl
set_option maxHeartbeats 4000000 in
theorem wodc (r : Rx) (hn : wzc r ≤ 1000000) (s : List UInt8) (hs : s.length ≤ 12) : ∀ (k : Nat) (a : Int), 0 ≤ a → a + k = s.length + 1 →
    lim Try.prog cfg (.loop 27 0 (wle 0) (SE (EJ 70 G0) [(8, .int .i64 a), (6, .pointer (some ⟨1, 0, none⟩)), (3, .pointer (some ⟨0, 0, none⟩)), (1, str s)])) (HP [X (rxC r) 47 0 true, X (mtC Mt.zero) 53 0 true]) = firO (wsl r s k a) := by
  intro k
  induction k with
  | zero =>
    intro a h0 hi
    rw [wsl, firO]
    refine wbb wag ?_
    unfold wgg
    (repeat' (first | (simp -implicitDefEqProofs (maxSteps := 2000000) (disch := first | with_reducible assumption | omega | (simp only [zS, zA, seval, wdb, wib, wlu, wff, zD] <;> omega) | fail) only [zS, argl, insA, Go.Den.wm, wo, wu, looks, wcb, wab, idOf, riA, seval, Go.Den.wh, kK, wed, wdb, wib, ej70, *, zT]) | (with_reducible (first | apply z1 | apply z2 | apply z3 | apply z4) <;> intro hq <;> (try simp only [zH] at hq) <;> (try (exfalso; omega)))))
  | succ k ih =>
    intro a h0 hi
    have h := ih (a + 1) (by omega) (by omega)
    have hw := ev_Ways r hn s hs true a
    have hl := row_len (wgab (r := r) (s := s) (bol := true) (a := a)) hs
    have h2 := first_in r s a (wlk r s true a) (by omega) _ 0 none (by rw [Nat.zero_add])
    unfold fiB at h2
    rw [List.drop_zero, show ((0 : Nat) : Int) = 0 from rfl, show bst none = St.zero from rfl, show (none : Option St).isSome = false from rfl] at h2
    rw [wsl]
    clear ih
    generalize wlk r s true a = l at hw hl h2 ⊢
    generalize wqo l none = b at h2 ⊢
    have hz : stC St.zero = [.int .i64 0, .int .i64 0, .int .i64 0, .int .i64 0, .int .i64 0, .int .i64 0, .int .i64 0, .int .i64 0, .int .i64 0] := rfl
    rw [hz] at h2
    cases b with
    | none =>
      rw [show bst none = St.zero from rfl, show (none : Option St).isSome = false from rfl, hz] at h2
      clear hz
      generalize wsl r s k (a + 1) = o at h ⊢
      cases o with
      | none =>
        rw [firO] at h ⊢
        refine wbb wag ?_
        unfold wgg
        (repeat' (first | (simp -implicitDefEqProofs (maxSteps := 2000000) (disch := first | with_reducible assumption | omega | (simp only [zS, zA, seval, wdb, wib, wlu, wff, zD] <;> omega) | fail) only [zS, argl, insA, Go.Den.wm, wo, wu, looks, wcb, wab, idOf, riA, seval, Go.Den.wh, kK, wed, wge, wdb, wib, ej70, *, zT]) | (with_reducible (first | apply z1 | apply z2 | apply z3 | apply z4) <;> intro hq <;> (try simp only [zH] at hq) <;> (try (exfalso; omega)))))
      | some m =>
        rw [firO] at h ⊢
        refine wbb wag ?_
        unfold wgg
        (repeat' (first | (simp -implicitDefEqProofs (maxSteps := 2000000) (disch := first | with_reducible assumption | omega | (simp only [zS, zA, seval, wdb, wib, wlu, wff, zD] <;> omega) | fail) only [zS, argl, insA, Go.Den.wm, wo, wu, looks, wcb, wab, idOf, riA, seval, Go.Den.wh, kK, wed, wge, wdb, wib, ej70, *, zT]) | (with_reducible (first | apply z1 | apply z2 | apply z3 | apply z4) <;> intro hq <;> (try simp only [zH] at hq) <;> (try (exfalso; omega)))))
    | some b =>
      rw [show bst (some b) = b from rfl, show (some b).isSome = true from rfl] at h2
      rw [firO]
      clear hz h
      refine wbb wag ?_
      unfold wgg
      (repeat' (first | (simp -implicitDefEqProofs (maxSteps := 2000000) (disch := first | with_reducible assumption | omega | (simp only [zS, zA, seval, wdb, wib, wlu, wff, zD] <;> omega) | fail) only [zS, argl, insA, Go.Den.wm, wo, wu, looks, wcb, wab, idOf, riA, seval, Go.Den.wh, kK, wed, wge, st_set12, wdb, wib, ej70, *, zT]) | (with_reducible (first | apply z1 | apply z2 | apply z3 | apply z4) <;> intro hq <;> (try simp only [zH] at hq) <;> (try (exfalso; omega)))))
def wxh (r : Rx) (s : List UInt8) (a : Int) : Option Mt := if wpo r = true ∧ 0 ≤ a ∧ a ≤ s.length then wsl r s (s.length + 1 - a).toNat a else none
theorem wznb (r : Rx) (hn : wzc r ≤ 1000000) (s : List UInt8) (hs : s.length ≤ 12) (a : Int) : lim Try.prog cfg (.call 27 [.agg ⟨rxC r⟩, str s, .int .i64 a]) (HP []) = some (.val (.tuple ⟨[.agg ⟨mtC ((wxh r s a).getD wbl)⟩, .bool (wxh r s a).isSome]⟩), HP []) := by
  have hr := wynb r hn
  have h0 := wqcc
  refine wnb hc wju (Nat.le_of_ble_eq_true rfl) (Nat.le_of_ble_eq_true rfl) ?_
  unfold wfs wxh
  cases hrv : wpo r with
  | false =>
    rw [if_neg (by simp), Option.getD_none, Option.isSome_none]
    rw [hrv] at hr
    clear hrv
    (repeat' (first | (simp -implicitDefEqProofs (maxSteps := 2000000) (disch := first | with_reducible assumption | omega | (simp only [zS, zA, seval, wff, zD] <;> omega) | fail) only [zS, argl, insA, Go.Den.wm, wo, wu, looks, wcb, wab, idOf, riA, seval, Go.Den.wh, kK, wed, wac, wmc, *, zT]) | (with_reducible (first | apply z1 | apply z2 | apply z3 | apply z4) <;> intro hq <;> (try simp only [zH] at hq) <;> (try (exfalso; omega)))))
  | true =>
    rw [hrv] at hr
    clear hrv
    by_cases h1 : 0 ≤ a
    · by_cases h2 : a ≤ s.length
      · rw [if_pos ⟨rfl, h1, h2⟩]
        have h := wodc r hn s hs (s.length + 1 - a).toNat a h1 (by omega)
        generalize wsl r s (s.length + 1 - a).toNat a = o at h ⊢
        cases o with
        | none =>
          rw [firO] at h
          rw [Option.getD_none, Option.isSome_none]
          rw [show mtC Mt.zero = [.int .i64 0, .int .i64 0, .int .i64 0, .int .i64 0, .int .i64 0, .int .i64 0, .int .i64 0, .int .i64 0] from rfl] at h
          (repeat' (first | (simp -implicitDefEqProofs (maxSteps := 2000000) (disch := first | with_reducible assumption | omega | (simp only [zS, zA, seval, wdb, wib, wff, zD] <;> omega) | fail) only [zS, argl, insA, Go.Den.wm, wo, wu, looks, wcb, wab, idOf, riA, seval, Go.Den.wh, kK, wed, wac, wmc, wdb, wib, ej70, *, zT]) | (with_reducible (first | apply z1 | apply z2 | apply z3 | apply z4) <;> intro hq <;> (try simp only [zH] at hq) <;> (try (exfalso; omega)))))
        | some m =>
          rw [firO] at h
          rw [Option.getD_some, Option.isSome_some]
          rw [show mtC Mt.zero = [.int .i64 0, .int .i64 0, .int .i64 0, .int .i64 0, .int .i64 0, .int .i64 0, .int .i64 0, .int .i64 0] from rfl] at h
          clear h0
          (repeat' (first | (simp -implicitDefEqProofs (maxSteps := 2000000) (disch := first | with_reducible assumption | omega | (simp only [zS, zA, seval, wdb, wib, wff, zD] <;> omega) | fail) only [zS, argl, insA, Go.Den.wm, wo, wu, looks, wcb, wab, idOf, riA, seval, Go.Den.wh, kK, wed, wac, wmc, wdb, wib, ej70, *, zT]) | (with_reducible (first | apply z1 | apply z2 | apply z3 | apply z4) <;> intro hq <;> (try simp only [zH] at hq) <;> (try (exfalso; omega)))))
      · rw [if_neg (fun h => h2 h.2.2), Option.getD_none, Option.isSome_none]
        (repeat' (first | (simp -implicitDefEqProofs (maxSteps := 2000000) (disch := first | with_reducible assumption | omega | (simp only [zS, zA, seval, wff, zD] <;> omega) | fail) only [zS, argl, insA, Go.Den.wm, wo, wu, looks, wcb, wab, idOf, riA, seval, Go.Den.wh, kK, wed, wac, wmc, *, zT]) | (with_reducible (first | apply z1 | apply z2 | apply z3 | apply z4) <;> intro hq <;> (try simp only [zH] at hq) <;> (try (exfalso; omega)))))
    · rw [if_neg (fun h => h1 h.2.1), Option.getD_none, Option.isSome_none]
      (repeat' (first | (simp -implicitDefEqProofs (maxSteps := 2000000) (disch := first | with_reducible assumption | omega | (simp only [zS, zA, seval, wff, zD] <;> omega) | fail) only [zS, argl, insA, Go.Den.wm, wo, wu, looks, wcb, wab, idOf, riA, seval, Go.Den.wh, kK, wed, wac, wmc, *, zT]) | (with_reducible (first | apply z1 | apply z2 | apply z3 | apply z4) <;> intro hq <;> (try simp only [zH] at hq) <;> (try (exfalso; omega)))))
end
end Go.Proofs.Ytgpabbbibmnnlaa
namespace Go.Proofs.Ytgpabbbibmnnlaa
set_option linter.unusedVariables false
set_option linter.unusedSimpArgs false
open Go.Den
noncomputable section
theorem waob : ∀ (l : List St) (b : Option St) (x : St), wqo l b = some x → x ∈ l ∨ b = some x := by
  intro l
  induction l with
  | nil => intro b x h; exact .inr h
  | cons y l ih =>
    intro b x h
    cases b with
    | none =>
      rw [wqo] at h
      rcases ih _ _ h with h | h
      · exact .inl (List.mem_cons_of_mem _ h)
      · cases h; exact .inl (List.mem_cons_self ..)
    | some b =>
      rw [wqo] at h
      rcases ih _ _ h with h | h
      · exact .inl (List.mem_cons_of_mem _ h)
      · split at h
        · cases h; exact .inl (List.mem_cons_self ..)
        · exact .inr h
theorem wrx {r : Rx} {s : List UInt8} {m : Mt} : ∀ (k : Nat) (a : Int), wsl r s k a = some m → ∃ b : St, ∃ a2 : Int, a ≤ a2 ∧ a2 < a + k ∧ wqo (wlk r s true a2) none = some b ∧ m = (b.2.put 0 a2).put 1 b.1 := by
  intro k
  induction k with
  | zero => intro a h; cases h
  | succ k ih =>
    intro a h
    rw [wsl] at h
    cases hb : wqo (wlk r s true a) none with
    | some b =>
      rw [hb] at h
      cases h
      exact ⟨b, a, Int.le_refl _, by omega, hb, rfl⟩
    | none =>
      rw [hb] at h
      obtain ⟨b, a2, h1, h2, h3, h4⟩ := ih (a + 1) h
      exact ⟨b, a2, by omega, by omega, h3, h4⟩
theorem wpdc {m : Mt} {x y : Int} : ((m.put 0 x).put 1 y).at 0 = x := by rw [Mt.at_put, if_neg (by omega), Mt.at_put, if_pos ⟨rfl, by omega⟩]
theorem wqdc {m : Mt} {x y : Int} : ((m.put 0 x).put 1 y).at 1 = y := by rw [Mt.at_put, if_pos ⟨rfl, by omega⟩]
theorem wro {r : Rx} {s : List UInt8} {a : Int} {m : Mt} (h : wxh r s a = some m) : 0 ≤ a ∧ a ≤ m.at 0 ∧ m.at 0 ≤ m.at 1 ∧ m.at 1 ≤ s.length := by
  unfold wxh at h
  split at h
  · rename_i hq
    obtain ⟨b, a2, h1, h2, h3, h4⟩ := wrx _ _ h
    subst h4
    rw [wpdc, wqdc]
    rcases waob _ _ _ h3 with hb | hb
    · have := (wgab (r := r) (s := s) (bol := true) (a := a2)).good b hb
      exact ⟨hq.2.1, h1, this.2, this.1.hi⟩
    · cases hb
  · cases h
def alF (r : Rx) (s : List UInt8) : Nat → Int → Int → List Mt → Bool × List Mt
  | 0, _, _, out => (true, out)
  | k + 1, a, last, out => if a ≤ s.length then (match wxh r s a with
    | none => (false, out)
    | some m => if m.at 0 = m.at 1 then (if m.at 1 = last then alF r s k (m.at 1 + 1) last out else alF r s k (m.at 1 + 1) (m.at 1) (out ++ [m])) else alF r s k (m.at 1) (m.at 1) (out ++ [m])) else (true, out)
def alV (l : List Mt) : Value := if l = [] then .slice none 0 0 else FO 0 l.length (mtsC l)
def alH (l : List Mt) : List ABlk := if l = [] then [] else [.tok l.length 53 8]
def alO (p : Bool × List Mt) : Option (Out × AH) := if p.1 = true then some (.code (.exit 0) (SE (EJ 47 G0) [(5, alV p.2), (4, JK)]), HP (alH p.2)) else some (.code .ret (SE (EJ 47 G0) [(5, alV p.2), (4, alV p.2)]), HP (alH p.2))
theorem ej47 : (EJ 47 G0).get 4 = JK := rfl
theorem wahb {r : Rx} {s : List UInt8} : ∀ (k : Nat) (a last : Int) (out : List Mt), out ≠ [] → (alF r s k a last out).2 ≠ [] := by
  intro k
  induction k with
  | zero => intro a l out h; exact h
  | succ k ih =>
    intro a l out h
    rw [alF]
    split
    · split
      · exact h
      · split
        · split
          · exact ih _ _ _ h
          · exact ih _ _ _ (by simp)
        · exact ih _ _ _ (by simp)
    · exact h
theorem wzp {p : Bool × List Mt} (h : p.2 ≠ []) : alO p = some (.code (if p.1 = true then .exit 0 else .ret) (SE (EJ 47 G0) [(5, FO 0 p.2.length (mtsC p.2)), (4, if p.1 = true then JK else FO 0 p.2.length (mtsC p.2))]), HP [.tok p.2.length 53 8]) := by
  unfold alO alV alH
  rw [if_neg h, if_neg h]
  split <;> rfl
theorem wbob {l : List Mt} {m : Mt} : mtsC (l ++ [m]) = mtsC l ++ mtC m := by rw [wdlb, mts_app]
set_option maxHeartbeats 4000000 in
theorem wbhb (r : Rx) (hn : wzc r ≤ 1000000) (s : List UInt8) (hs : s.length ≤ 12) : ∀ (k : Nat) (a last : Int) (out : List Mt), 0 ≤ a → a ≤ s.length + 1 → s.length + 1 ≤ a + k → out ≠ [] → (out.length : Int) ≤ a →
    lim Try.prog cfg (.loop 30 0 (wjk 0) (SE (EJ 47 G0) [(7, .int .i64 a), (6, .int .i64 last), (5, FO 1 out.length (mtsC out)), (2, .pointer (some ⟨0, 0, none⟩)), (1, str s)])) (HP [X (rxC r) 47 0 true, .tok out.length 53 8]) = alO (alF r s k a last out) := by
  intro k
  induction k with
  | zero =>
    intro a last out h0 h1 h2 ho hl
    rw [alF, wzp ho, if_pos rfl, if_pos rfl]
    refine wbb wkb ?_
    unfold wvb
    (repeat' (first | (simp -implicitDefEqProofs (maxSteps := 2000000) (disch := first | with_reducible assumption | omega | (simp only [zS, zA, seval, wdb, wib, zD] <;> omega) | fail) only [zS, argl, insA, Go.Den.wm, wo, wu, looks, wcb, wab, idOf, riA, seval, Go.Den.wh, kK, wob, wdb, wib, ej47, *, zT]) | (with_reducible (first | apply z1 | apply z2 | apply z3 | apply z4) <;> intro hq <;> (try simp only [zH] at hq) <;> (try (exfalso; omega)))))
  | succ k ih =>
    intro a last out h0 h1 h2 ho hl
    rw [alF]
    by_cases ha : a ≤ s.length
    · rw [if_pos ha]
      have hf := wznb r hn s hs a
      cases hm : wxh r s a with
      | none =>
        rw [hm, Option.getD_none, Option.isSome_none] at hf
        show _ = alO (false, out)
        rw [wzp ho, if_neg (by simp), if_neg (by simp)]
        clear ih hm
        refine wbb wkb ?_
        unfold wvb
        (repeat' (first | (simp -implicitDefEqProofs (maxSteps := 2000000) (disch := first | with_reducible assumption | omega | (simp only [zS, zA, seval, wdb, wib, zD] <;> omega) | fail) only [zS, argl, insA, Go.Den.wm, wo, wu, looks, wcb, wab, idOf, riA, seval, Go.Den.wh, kK, wob, wdb, wib, ej47, *, zT]) | (with_reducible (first | apply z1 | apply z2 | apply z3 | apply z4) <;> intro hq <;> (try simp only [zH] at hq) <;> (try (exfalso; omega)))))
      | some m =>
        rw [hm, Option.getD_some, Option.isSome_some] at hf
        have hr := wro hm
        clear hm
        show _ = alO (if m.at 0 = m.at 1 then (if m.at 1 = last then alF r s k (m.at 1 + 1) last out else alF r s k (m.at 1 + 1) (m.at 1) (out ++ [m])) else alF r s k (m.at 1) (m.at 1) (out ++ [m]))
        by_cases hq : m.at 0 = m.at 1
        · rw [if_pos hq]
          by_cases hl2 : m.at 1 = last
          · rw [if_pos hl2]
            have h := ih (m.at 1 + 1) last out (by omega) (by omega) (by omega) ho (by omega)
            have hne := wahb (r := r) (s := s) k (m.at 1 + 1) last out ho
            generalize alF r s k (m.at 1 + 1) last out = p at h hne ⊢
            obtain ⟨b, l⟩ := p
            rw [wzp hne] at h ⊢
            rw [hl2] at h
            clear ih
            cases b with
            | true =>
              rw [if_pos rfl, if_pos rfl] at h ⊢
              refine wbb wkb ?_
              unfold wvb
              (repeat' (first | (simp -implicitDefEqProofs (maxSteps := 2000000) (disch := first | with_reducible assumption | omega | (simp only [zS, zA, seval, wdb, wib, wgf, wff, zD] <;> omega) | fail) only [zS, argl, insA, Go.Den.wm, wo, wu, looks, wcb, wab, idOf, riA, seval, Go.Den.wh, kK, wob, wdb, wib, ej47, *, zT]) | (with_reducible (first | apply z1 | apply z2 | apply z3 | apply z4) <;> intro hq <;> (try simp only [zH] at hq) <;> (try (exfalso; omega)))))
            | false =>
              rw [if_neg (by simp), if_neg (by simp)] at h ⊢
              refine wbb wkb ?_
              unfold wvb
              (repeat' (first | (simp -implicitDefEqProofs (maxSteps := 2000000) (disch := first | with_reducible assumption | omega | (simp only [zS, zA, seval, wdb, wib, wgf, wff, zD] <;> omega) | fail) only [zS, argl, insA, Go.Den.wm, wo, wu, looks, wcb, wab, idOf, riA, seval, Go.Den.wh, kK, wob, wdb, wib, ej47, *, zT]) | (with_reducible (first | apply z1 | apply z2 | apply z3 | apply z4) <;> intro hq <;> (try simp only [zH] at hq) <;> (try (exfalso; omega)))))
          · rw [if_neg hl2]
            have h := ih (m.at 1 + 1) (m.at 1) (out ++ [m]) (by omega) (by omega) (by omega) (by simp) (by simp; omega)
            have hne := wahb (r := r) (s := s) k (m.at 1 + 1) (m.at 1) (out ++ [m]) (by simp)
            generalize alF r s k (m.at 1 + 1) (m.at 1) (out ++ [m]) = p at h hne ⊢
            obtain ⟨b, l⟩ := p
            rw [wzp hne] at h ⊢
            clear ih
            rw [show (out ++ [m]).length = out.length + 1 by simp, wbob] at h
            cases b with
            | true =>
              rw [if_pos rfl, if_pos rfl] at h ⊢
              refine wbb wkb ?_
              unfold wvb
              (repeat' (first | (simp -implicitDefEqProofs (maxSteps := 2000000) (disch := first | with_reducible assumption | omega | (simp only [zS, zA, seval, wdb, wib, wgf, wff, zD] <;> omega) | fail) only [zS, argl, insA, Go.Den.wm, wo, wu, looks, wcb, wab, idOf, riA, seval, Go.Den.wh, kK, wob, wdb, wib, ej47, *, zT]) | (with_reducible (first | apply z1 | apply z2 | apply z3 | apply z4) <;> intro hq <;> (try simp only [zH] at hq) <;> (try (exfalso; omega)))))
            | false =>
              rw [if_neg (by simp), if_neg (by simp)] at h ⊢
              refine wbb wkb ?_
              unfold wvb
              (repeat' (first | (simp -implicitDefEqProofs (maxSteps := 2000000) (disch := first | with_reducible assumption | omega | (simp only [zS, zA, seval, wdb, wib, wgf, wff, zD] <;> omega) | fail) only [zS, argl, insA, Go.Den.wm, wo, wu, looks, wcb, wab, idOf, riA, seval, Go.Den.wh, kK, wob, wdb, wib, ej47, *, zT]) | (with_reducible (first | apply z1 | apply z2 | apply z3 | apply z4) <;> intro hq <;> (try simp only [zH] at hq) <;> (try (exfalso; omega)))))
        · rw [if_neg hq]
          have h := ih (m.at 1) (m.at 1) (out ++ [m]) (by omega) (by omega) (by omega) (by simp) (by simp; omega)
          have hne := wahb (r := r) (s := s) k (m.at 1) (m.at 1) (out ++ [m]) (by simp)
          generalize alF r s k (m.at 1) (m.at 1) (out ++ [m]) = p at h hne ⊢
          obtain ⟨b, l⟩ := p
          rw [wzp hne] at h ⊢
          clear ih
          rw [show (out ++ [m]).length = out.length + 1 by simp, wbob] at h
          cases b with
          | true =>
            rw [if_pos rfl, if_pos rfl] at h ⊢
            refine wbb wkb ?_
            unfold wvb
            (repeat' (first | (simp -implicitDefEqProofs (maxSteps := 2000000) (disch := first | with_reducible assumption | omega | (simp only [zS, zA, seval, wdb, wib, wgf, wff, zD] <;> omega) | fail) only [zS, argl, insA, Go.Den.wm, wo, wu, looks, wcb, wab, idOf, riA, seval, Go.Den.wh, kK, wob, wdb, wib, ej47, *, zT]) | (with_reducible (first | apply z1 | apply z2 | apply z3 | apply z4) <;> intro hq <;> (try simp only [zH] at hq) <;> (try (exfalso; omega)))))
          | false =>
            rw [if_neg (by simp), if_neg (by simp)] at h ⊢
            refine wbb wkb ?_
            unfold wvb
            (repeat' (first | (simp -implicitDefEqProofs (maxSteps := 2000000) (disch := first | with_reducible assumption | omega | (simp only [zS, zA, seval, wdb, wib, wgf, wff, zD] <;> omega) | fail) only [zS, argl, insA, Go.Den.wm, wo, wu, looks, wcb, wab, idOf, riA, seval, Go.Den.wh, kK, wob, wdb, wib, ej47, *, zT]) | (with_reducible (first | apply z1 | apply z2 | apply z3 | apply z4) <;> intro hq <;> (try simp only [zH] at hq) <;> (try (exfalso; omega)))))
    · rw [if_neg ha]
      show _ = alO (true, out)
      rw [wzp ho, if_pos rfl, if_pos rfl]
      clear ih
      refine wbb wkb ?_
      unfold wvb
      (repeat' (first | (simp -implicitDefEqProofs (maxSteps := 2000000) (disch := first | with_reducible assumption | omega | (simp only [zS, zA, seval, wdb, wib, zD] <;> omega) | fail) only [zS, argl, insA, Go.Den.wm, wo, wu, looks, wcb, wab, idOf, riA, seval, Go.Den.wh, kK, wob, wdb, wib, ej47, *, zT]) | (with_reducible (first | apply z1 | apply z2 | apply z3 | apply z4) <;> intro hq <;> (try simp only [zH] at hq) <;> (try (exfalso; omega)))))
theorem wsx {b : Bool} : alO (b, []) = some (.code (if b = true then .exit 0 else .ret) (SE (EJ 47 G0) [(5, .slice none 0 0), (4, if b = true then JK else .slice none 0 0)]), HP []) := by
  unfold alO alV alH
  rw [if_pos rfl, if_pos rfl]
  cases b <;> rfl
set_option maxHeartbeats 4000000 in
theorem wrdc (r : Rx) (hn : wzc r ≤ 1000000) (s : List UInt8) (hs : s.length ≤ 12) : ∀ (k : Nat) (a last : Int), 0 ≤ a → a ≤ s.length + 1 → s.length + 1 ≤ a + k →
    lim Try.prog cfg (.loop 30 0 (wjk 0) (SE (EJ 47 G0) [(7, .int .i64 a), (6, .int .i64 last), (5, .slice none 0 0), (2, .pointer (some ⟨0, 0, none⟩)), (1, str s)])) (HP [X (rxC r) 47 0 true]) = alO (alF r s k a last []) := by
  intro k
  induction k with
  | zero =>
    intro a last h0 h1 h2
    rw [alF, wsx, if_pos rfl, if_pos rfl]
    refine wbb wkb ?_
    unfold wvb
    (repeat' (first | (simp -implicitDefEqProofs (maxSteps := 2000000) (disch := first | with_reducible assumption | omega | (simp only [zS, zA, seval, wdb, wib, zD] <;> omega) | fail) only [zS, argl, insA, Go.Den.wm, wo, wu, looks, wcb, wab, idOf, riA, seval, Go.Den.wh, kK, wob, wdb, wib, ej47, *, zT]) | (with_reducible (first | apply z1 | apply z2 | apply z3 | apply z4) <;> intro hq <;> (try simp only [zH] at hq) <;> (try (exfalso; omega)))))
  | succ k ih =>
    intro a last h0 h1 h2
    rw [alF]
    by_cases ha : a ≤ s.length
    · rw [if_pos ha]
      have hf := wznb r hn s hs a
      cases hm : wxh r s a with
      | none =>
        rw [hm, Option.getD_none, Option.isSome_none] at hf
        show _ = alO (false, [])
        rw [wsx, if_neg (by simp), if_neg (by simp)]
        clear ih hm
        refine wbb wkb ?_
        unfold wvb
        (repeat' (first | (simp -implicitDefEqProofs (maxSteps := 2000000) (disch := first | with_reducible assumption | omega | (simp only [zS, zA, seval, wdb, wib, zD] <;> omega) | fail) only [zS, argl, insA, Go.Den.wm, wo, wu, looks, wcb, wab, idOf, riA, seval, Go.Den.wh, kK, wob, wdb, wib, ej47, *, zT]) | (with_reducible (first | apply z1 | apply z2 | apply z3 | apply z4) <;> intro hq <;> (try simp only [zH] at hq) <;> (try (exfalso; omega)))))
      | some m =>
        rw [hm, Option.getD_some, Option.isSome_some] at hf
        have hr := wro hm
        clear hm
        show _ = alO (if m.at 0 = m.at 1 then (if m.at 1 = last then alF r s k (m.at 1 + 1) last [] else alF r s k (m.at 1 + 1) (m.at 1) ([] ++ [m])) else alF r s k (m.at 1) (m.at 1) ([] ++ [m]))
        rw [List.nil_append]
        by_cases hq : m.at 0 = m.at 1
        · rw [if_pos hq]
          by_cases hl2 : m.at 1 = last
          · rw [if_pos hl2]
            have h := ih (m.at 1 + 1) last (by omega) (by omega) (by omega)
            generalize alF r s k (m.at 1 + 1) last [] = p at h ⊢
            obtain ⟨b, l⟩ := p
            rw [hl2] at h
            clear ih
            by_cases hne : l = []
            · subst hne
              rw [wsx] at h ⊢
              cases b with
              | true =>
                rw [if_pos rfl, if_pos rfl] at h ⊢
                refine wbb wkb ?_
                unfold wvb
                (repeat' (first | (simp -implicitDefEqProofs (maxSteps := 2000000) (disch := first | with_reducible assumption | omega | (simp only [zS, zA, seval, wdb, wib, wgf, wff, zD] <;> omega) | fail) only [zS, argl, insA, Go.Den.wm, wo, wu, looks, wcb, wab, idOf, riA, seval, Go.Den.wh, kK, wob, wdb, wib, ej47, *, zT]) | (with_reducible (first | apply z1 | apply z2 | apply z3 | apply z4) <;> intro hq <;> (try simp only [zH] at hq) <;> (try (exfalso; omega)))))
              | false =>
                rw [if_neg (by simp), if_neg (by simp)] at h ⊢
                refine wbb wkb ?_
                unfold wvb
                (repeat' (first | (simp -implicitDefEqProofs (maxSteps := 2000000) (disch := first | with_reducible assumption | omega | (simp only [zS, zA, seval, wdb, wib, wgf, wff, zD] <;> omega) | fail) only [zS, argl, insA, Go.Den.wm, wo, wu, looks, wcb, wab, idOf, riA, seval, Go.Den.wh, kK, wob, wdb, wib, ej47, *, zT]) | (with_reducible (first | apply z1 | apply z2 | apply z3 | apply z4) <;> intro hq <;> (try simp only [zH] at hq) <;> (try (exfalso; omega)))))
            · rw [wzp hne] at h ⊢
              cases b with
              | true =>
                rw [if_pos rfl, if_pos rfl] at h ⊢
                refine wbb wkb ?_
                unfold wvb
                (repeat' (first | (simp -implicitDefEqProofs (maxSteps := 2000000) (disch := first | with_reducible assumption | omega | (simp only [zS, zA, seval, wdb, wib, wgf, wff, zD] <;> omega) | fail) only [zS, argl, insA, Go.Den.wm, wo, wu, looks, wcb, wab, idOf, riA, seval, Go.Den.wh, kK, wob, wdb, wib, ej47, *, zT]) | (with_reducible (first | apply z1 | apply z2 | apply z3 | apply z4) <;> intro hq <;> (try simp only [zH] at hq) <;> (try (exfalso; omega)))))
              | false =>
                rw [if_neg (by simp), if_neg (by simp)] at h ⊢
                refine wbb wkb ?_
                unfold wvb
                (repeat' (first | (simp -implicitDefEqProofs (maxSteps := 2000000) (disch := first | with_reducible assumption | omega | (simp only [zS, zA, seval, wdb, wib, wgf, wff, zD] <;> omega) | fail) only [zS, argl, insA, Go.Den.wm, wo, wu, looks, wcb, wab, idOf, riA, seval, Go.Den.wh, kK, wob, wdb, wib, ej47, *, zT]) | (with_reducible (first | apply z1 | apply z2 | apply z3 | apply z4) <;> intro hq <;> (try simp only [zH] at hq) <;> (try (exfalso; omega)))))
          · rw [if_neg hl2]
            have h := wbhb r hn s hs k (m.at 1 + 1) (m.at 1) [m] (by omega) (by omega) (by omega) (by simp) (by simp; omega)
            have hne := wahb (r := r) (s := s) k (m.at 1 + 1) (m.at 1) [m] (List.cons_ne_nil m [])
            generalize alF r s k (m.at 1 + 1) (m.at 1) [m] = p at h hne ⊢
            obtain ⟨b, l⟩ := p
            rw [wzp hne] at h ⊢
            clear ih
            rw [show [m].length = 1 from rfl, ← wdlb] at h
            cases b with
            | true =>
              rw [if_pos rfl, if_pos rfl] at h ⊢
              refine wbb wkb ?_
              unfold wvb
              (repeat' (first | (simp -implicitDefEqProofs (maxSteps := 2000000) (disch := first | with_reducible assumption | omega | (simp only [zS, zA, seval, wdb, wib, wgf, wff, zD] <;> omega) | fail) only [zS, argl, insA, Go.Den.wm, wo, wu, looks, wcb, wab, idOf, riA, seval, Go.Den.wh, kK, wob, wdb, wib, ej47, *, zT]) | (with_reducible (first | apply z1 | apply z2 | apply z3 | apply z4) <;> intro hq <;> (try simp only [zH] at hq) <;> (try (exfalso; omega)))))
            | false =>
              rw [if_neg (by simp), if_neg (by simp)] at h ⊢
              refine wbb wkb ?_
              unfold wvb
              (repeat' (first | (simp -implicitDefEqProofs (maxSteps := 2000000) (disch := first | with_reducible assumption | omega | (simp only [zS, zA, seval, wdb, wib, wgf, wff, zD] <;> omega) | fail) only [zS, argl, insA, Go.Den.wm, wo, wu, looks, wcb, wab, idOf, riA, seval, Go.Den.wh, kK, wob, wdb, wib, ej47, *, zT]) | (with_reducible (first | apply z1 | apply z2 | apply z3 | apply z4) <;> intro hq <;> (try simp only [zH] at hq) <;> (try (exfalso; omega)))))
        · rw [if_neg hq]
          have h := wbhb r hn s hs k (m.at 1) (m.at 1) [m] (by omega) (by omega) (by omega) (by simp) (by simp; omega)
          have hne := wahb (r := r) (s := s) k (m.at 1) (m.at 1) [m] (List.cons_ne_nil m [])
          generalize alF r s k (m.at 1) (m.at 1) [m] = p at h hne ⊢
          obtain ⟨b, l⟩ := p
          rw [wzp hne] at h ⊢
          clear ih
          rw [show [m].length = 1 from rfl, ← wdlb] at h
          cases b with
          | true =>
            rw [if_pos rfl, if_pos rfl] at h ⊢
            refine wbb wkb ?_
            unfold wvb
            (repeat' (first | (simp -implicitDefEqProofs (maxSteps := 2000000) (disch := first | with_reducible assumption | omega | (simp only [zS, zA, seval, wdb, wib, wgf, wff, zD] <;> omega) | fail) only [zS, argl, insA, Go.Den.wm, wo, wu, looks, wcb, wab, idOf, riA, seval, Go.Den.wh, kK, wob, wdb, wib, ej47, *, zT]) | (with_reducible (first | apply z1 | apply z2 | apply z3 | apply z4) <;> intro hq <;> (try simp only [zH] at hq) <;> (try (exfalso; omega)))))
          | false =>
            rw [if_neg (by simp), if_neg (by simp)] at h ⊢
            refine wbb wkb ?_
            unfold wvb
            (repeat' (first | (simp -implicitDefEqProofs (maxSteps := 2000000) (disch := first | with_reducible assumption | omega | (simp only [zS, zA, seval, wdb, wib, wgf, wff, zD] <;> omega) | fail) only [zS, argl, insA, Go.Den.wm, wo, wu, looks, wcb, wab, idOf, riA, seval, Go.Den.wh, kK, wob, wdb, wib, ej47, *, zT]) | (with_reducible (first | apply z1 | apply z2 | apply z3 | apply z4) <;> intro hq <;> (try simp only [zH] at hq) <;> (try (exfalso; omega)))))
    · rw [if_neg ha]
      show _ = alO (true, [])
      rw [wsx, if_pos rfl, if_pos rfl]
      clear ih
      refine wbb wkb ?_
      unfold wvb
      (repeat' (first | (simp -implicitDefEqProofs (maxSteps := 2000000) (disch := first | with_reducible assumption | omega | (simp only [zS, zA, seval, wdb, wib, zD] <;> omega) | fail) only [zS, argl, insA, Go.Den.wm, wo, wu, looks, wcb, wab, idOf, riA, seval, Go.Den.wh, kK, wob, wdb, wib, ej47, *, zT]) | (with_reducible (first | apply z1 | apply z2 | apply z3 | apply z4) <;> intro hq <;> (try simp only [zH] at hq) <;> (try (exfalso; omega)))))
def allR (r : Rx) (s : List UInt8) : List Mt := (alF r s (s.length + 1) 0 (-1) []).2
theorem ev_All (r : Rx) (hn : wzc r ≤ 1000000) (s : List UInt8) (hs : s.length ≤ 12) : lim Try.prog cfg (.call 30 [.agg ⟨rxC r⟩, str s]) (HP []) = some (.val (FL (allR r s).length (mtsC (allR r s))), HP []) := by
  have h := wrdc r hn s hs (s.length + 1) 0 (-1) (by omega) (by omega) (by omega)
  refine wnb hc wpy (Nat.le_of_ble_eq_true rfl) (Nat.le_of_ble_eq_true rfl) ?_
  unfold wcx allR
  generalize alF r s (s.length + 1) 0 (-1) [] = p at h ⊢
  obtain ⟨b, l⟩ := p
  by_cases hne : l = []
  · subst hne
    rw [wsx] at h
    cases b with
    | true =>
      rw [if_pos rfl, if_pos rfl] at h
      (repeat' (first | (simp -implicitDefEqProofs (maxSteps := 2000000) (disch := first | with_reducible assumption | omega | (simp only [zS, zA, seval, wdb, wib, wgf, wff, zD] <;> omega) | fail) only [zS, argl, insA, Go.Den.wm, wo, wu, looks, wcb, wab, idOf, riA, seval, Go.Den.wh, kK, wob, wdb, wib, ej47, *, zT]) | (with_reducible (first | apply z1 | apply z2 | apply z3 | apply z4) <;> intro hq <;> (try simp only [zH] at hq) <;> (try (exfalso; omega)))))
      all_goals rfl
    | false =>
      rw [if_neg (by simp), if_neg (by simp)] at h
      (repeat' (first | (simp -implicitDefEqProofs (maxSteps := 2000000) (disch := first | with_reducible assumption | omega | (simp only [zS, zA, seval, wdb, wib, wgf, wff, zD] <;> omega) | fail) only [zS, argl, insA, Go.Den.wm, wo, wu, looks, wcb, wab, idOf, riA, seval, Go.Den.wh, kK, wob, wdb, wib, ej47, *, zT]) | (with_reducible (first | apply z1 | apply z2 | apply z3 | apply z4) <;> intro hq <;> (try simp only [zH] at hq) <;> (try (exfalso; omega)))))
      all_goals rfl
  · rw [wzp hne] at h
    cases b with
    | true =>
      rw [if_pos rfl, if_pos rfl] at h
      (repeat' (first | (simp -implicitDefEqProofs (maxSteps := 2000000) (disch := first | with_reducible assumption | omega | (simp only [zS, zA, seval, wdb, wib, wgf, wff, zD] <;> omega) | fail) only [zS, argl, insA, Go.Den.wm, wo, wu, looks, wcb, wab, idOf, riA, seval, Go.Den.wh, kK, wob, wdb, wib, ej47, *, zT]) | (with_reducible (first | apply z1 | apply z2 | apply z3 | apply z4) <;> intro hq <;> (try simp only [zH] at hq) <;> (try (exfalso; omega)))))
      all_goals rfl
    | false =>
      rw [if_neg (by simp), if_neg (by simp)] at h
      (repeat' (first | (simp -implicitDefEqProofs (maxSteps := 2000000) (disch := first | with_reducible assumption | omega | (simp only [zS, zA, seval, wdb, wib, wgf, wff, zD] <;> omega) | fail) only [zS, argl, insA, Go.Den.wm, wo, wu, looks, wcb, wab, idOf, riA, seval, Go.Den.wh, kK, wob, wdb, wib, ej47, *, zT]) | (with_reducible (first | apply z1 | apply z2 | apply z3 | apply z4) <;> intro hq <;> (try simp only [zH] at hq) <;> (try (exfalso; omega)))))
      all_goals rfl
end
end Go.Proofs.Ytgpabbbibmnnlaa
namespace Go.Proofs.Ytgpabbbibmnnlaa
set_option linter.unusedVariables false
set_option linter.unusedSimpArgs false
open Go.Den
noncomputable section
abbrev Pc := Int × List UInt8
def pcC (p : Pc) : List Value := [.int .i64 p.1, str p.2]
def pcsC (l : List Pc) : List Value := l.flatMap pcC
theorem pc_len {p : Pc} : (pcC p).length = 2 := rfl
theorem pc_atom {p : Pc} : wie (pcC p) = true := rfl
theorem wsdc {l : List Pc} : (pcsC l).length = l.length * 2 := wxu (fun _ => pc_len) l
theorem wcob {l : List Pc} {i : Nat} (h : i < l.length) : slotsOf (pcsC l) (i * 2) 2 = [.int .i64 (l.getD i (0, [])).1, str (l.getD i (0, [])).2] := whs (fun _ => pc_len) _ l i h
theorem pcs_atom {l : List Pc} : wie (pcsC l) = true := wis (fun _ => pc_atom) l
theorem wso (l : List Pc) : FzL (pcsC l) := fzl pcs_atom
def wto (m : Mt) (s : List UInt8) (p : Pc) : List UInt8 := if p.1 = -1 then p.2 else wnx m s p.1
def wtl (m : Mt) (s : List UInt8) (l : List Pc) : List UInt8 := l.flatMap (wto m s)
theorem wtdc (m : Mt) (s : List UInt8) (n : Int) : (wnx m s n).length ≤ s.length := by
  unfold wnx
  repeat' split
  all_goals first | exact Nat.zero_le _ | (rw [List.length_drop, List.length_take]; omega)
theorem wtx {m : Mt} {s : List UInt8} {p : Pc} (hs : s.length ≤ 1000) (hp : p.2.length ≤ 1000) : (wto m s p).length ≤ 1000 := by
  unfold wto
  split
  · exact hp
  · have := wtdc m s p.1; omega
theorem wdob {l : List Pc} {i : Nat} (h : i < l.length) : l.drop i = l.getD i (0, []) :: l.drop (i + 1) := by
  rw [List.drop_eq_getElem_cons h, List.getD_eq_getElem?_getD, List.getElem?_eq_getElem h]; rfl
theorem wudc {l : List Pc} {i : Nat} (h : i < l.length) : l.getD i (0, []) ∈ l := by
  rw [List.getD_eq_getElem?_getD, List.getElem?_eq_getElem h]; exact List.getElem_mem h
abbrev sbP1 : Value := .pointer (some ⟨1, 0, none⟩)
def sbA1 (a : Bool) : Value := if a = true then sbP1 else .pointer none
abbrev tfH (m : Mt) : ABlk := X (mtC m) 53 0 true
set_option maxHeartbeats 2000000 in
set_option maxRecDepth 20000 in
theorem fill_C (m : Mt) (s : List UInt8) (hs : s.length ≤ 1000) (L : List Pc) (hL : L.length ≤ 100) (hp : ∀ p ∈ L, p.2.length ≤ 1000) : ∀ (k i : Nat) (l : List UInt8), i + k = L.length → l ≠ [] → l.length ≤ 1000 + i * 1000 →
    lim Try.prog cfg (.loop 78 0 (wkk 0) (SE (EJ 30 G0) [(12, .int .i64 i), (11, .int .i64 L.length), (10, FL L.length (pcsC L)), (7, sbP1), (4, .pointer (some ⟨0, 0, none⟩)), (2, str s)])) (HP [tfH m, X [sbP1, FO 2 l.length (u8s l)] SB 0 false, .tok l.length BY 1]) = some (.code (.exit 0) (SE (EJ 30 G0) [(7, sbP)]), HP [X [sbP, FO 1 (l ++ wtl m s (L.drop i)).length (u8s (l ++ wtl m s (L.drop i)))] SB 0 false, .tok (l ++ wtl m s (L.drop i)).length BY 1]) := by
  intro k
  induction k with
  | zero =>
    intro i l hi hne hl
    clear hp
    rw [List.drop_of_length_le (by omega), wtl, List.flatMap_nil, List.append_nil]
    refine wbb wgh ?_
    unfold wdi
    (repeat' (first | (simp -implicitDefEqProofs (maxSteps := 2000000) (disch := first | with_reducible assumption | omega | (simp only [zS, zA, seval, wji, wff, wso, zD] <;> omega) | fail) only [zS, argl, insA, Go.Den.wm, wo, wu, looks, wcb, wab, idOf, riA, seval, Go.Den.wh, kK, wfi, *, zT]) | (with_reducible (first | apply z1 | apply z2 | apply z3 | apply z4) <;> intro hq <;> (try simp only [zH] at hq) <;> (try (exfalso; omega)))))
  | succ k ih =>
    intro i l hi hne hl
    have hlt : i < L.length := by omega
    have hpl := wtx (m := m) hs (hp _ (wudc hlt))
    rw [wdob hlt, wtl, List.flatMap_cons]
    have hg := wnnb m s (L.getD i (0, [])).1
    have hq : (if (L.getD i (0, [])).1 = -1 then (L.getD i (0, [])).2 else wnx m s (L.getD i (0, [])).1) = wto m s (L.getD i (0, [])) := rfl
    generalize wto m s (L.getD i (0, [])) = p at *
    have hlen : (pcsC L).length = L.length * 2 := wsdc
    have hle : i * 2 + 2 ≤ (pcsC L).length := by omega
    have hi2 : i + 1 + k = L.length := by omega
    have hl2 : l.length ≤ 1000 + (i + 1) * 1000 := by omega
    have h := ih (i + 1) (l ++ p) hi2 (by simp [hne]) (by rw [List.length_append]; omega)
    rw [← List.append_assoc]
    unfold wtl at h
    generalize l ++ p ++ List.flatMap (wto m s) (L.drop (i + 1)) = R at h ⊢
    have hw := wnt l p (by omega)
    generalize l ++ p = l2 at h hw
    clear ih hp
    by_cases h1 : (L.getD i (0, [])).1 = -1
    case' pos => rw [if_pos h1] at hq
    case' neg => rw [if_neg h1] at hq
    all_goals
      refine wbb wgh ?_
      unfold wdi
      (repeat' (first | (simp -implicitDefEqProofs (maxSteps := 2000000) (disch := first | with_reducible assumption | omega | (simp only [zS, zA, seval, wji, wff, wso, zD] <;> omega) | fail) only [zS, argl, insA, Go.Den.wm, wo, wu, looks, wcb, wab, idOf, riA, seval, Go.Den.wh, kK, wfi, wcob, *, zT]) | (with_reducible (first | apply z1 | apply z2 | apply z3 | apply z4) <;> intro hq <;> (try simp only [zH] at hq) <;> (try (exfalso; omega)))))
      exact h
theorem sbA1_t : sbA1 true = sbP1 := rfl
theorem sbA1_f : sbA1 false = .pointer none := rfl
set_option maxHeartbeats 4000000 in
theorem fill_N (m : Mt) (s : List UInt8) (hs : s.length ≤ 1000) (L : List Pc) (hL : L.length ≤ 100) (hp : ∀ p ∈ L, p.2.length ≤ 1000) : ∀ (k i : Nat) (a : Bool), i + k = L.length →
    lim Try.prog cfg (.loop 78 0 (wkk 0) (SE (EJ 30 G0) [(12, .int .i64 i), (11, .int .i64 L.length), (10, FL L.length (pcsC L)), (7, sbP1), (4, .pointer (some ⟨0, 0, none⟩)), (2, str s)])) (HP [tfH m, X [sbA1 a, .slice none 0 0] SB 0 false]) = some (.code (.exit 0) (SE (EJ 30 G0) [(7, sbP)]), HP (sbH (a || decide (0 < k)) (wtl m s (L.drop i)))) := by
  intro k
  induction k with
  | zero =>
    intro i a hi
    clear hp
    rw [List.drop_of_length_le (by omega), wtl, List.flatMap_nil, wgtb, show (a || decide (0 < 0)) = a by cases a <;> rfl]
    refine wbb wgh ?_
    unfold wdi
    cases a <;> simp only [wrgb, wsgb, sbA1_t, sbA1_f]
    all_goals (repeat' (first | (simp -implicitDefEqProofs (maxSteps := 2000000) (disch := first | with_reducible assumption | omega | (simp only [zS, zA, seval, wji, wff, wso, zD] <;> omega) | fail) only [zS, argl, insA, Go.Den.wm, wo, wu, looks, wcb, wab, idOf, riA, seval, Go.Den.wh, kK, wfi, *, zT]) | (with_reducible (first | apply z1 | apply z2 | apply z3 | apply z4) <;> intro hq <;> (try simp only [zH] at hq) <;> (try (exfalso; omega)))))
  | succ k ih =>
    intro i a hi
    have hlt : i < L.length := by omega
    have hpl := wtx (m := m) hs (hp _ (wudc hlt))
    have hi2 : i + 1 + k = L.length := by omega
    rw [wdob hlt, wtl, List.flatMap_cons]
    have hg := wnnb m s (L.getD i (0, [])).1
    have hq : (if (L.getD i (0, [])).1 = -1 then (L.getD i (0, [])).2 else wnx m s (L.getD i (0, [])).1) = wto m s (L.getD i (0, [])) := rfl
    have hC := fill_C m s hs L hL hp k (i + 1)
    generalize wto m s (L.getD i (0, [])) = p at *
    have hlen : (pcsC L).length = L.length * 2 := wsdc
    have hle : i * 2 + 2 ≤ (pcsC L).length := by omega
    have hpl2 : p.length ≤ 1000 + (i + 1) * 1000 := by omega
    have hpl3 : p.length ≤ 2000000 := by omega
    have ha : (a || decide (0 < k + 1)) = true := by rw [decide_eq_true (Nat.succ_pos k), Bool.or_true]
    rw [ha]
    by_cases h0 : p = []
    case' pos =>
      have h := ih (i + 1) true hi2
      rw [Bool.true_or] at h
      rw [h0, List.nil_append]
      rw [h0] at hq
      unfold wtl at h
      generalize sbH true (List.flatMap (wto m s) (L.drop (i + 1))) = R at h ⊢
      have hw := wzu a
    case' neg =>
      have h := hC p hi2 h0 hpl2
      have hne : p ++ List.flatMap (wto m s) (L.drop (i + 1)) ≠ [] := by simp [h0]
      rw [wilb hne]
      unfold wtl at h
      generalize p ++ List.flatMap (wto m s) (L.drop (i + 1)) = R at h ⊢
      have hw := wav a p hpl3 h0
      clear hne
    all_goals
      clear ih hp hC ha hpl hpl2 hpl3 hi2
      by_cases h1 : (L.getD i (0, [])).1 = -1
      case' pos => rw [if_pos h1] at hq
      case' neg => rw [if_neg h1] at hq
    all_goals
      cases a <;> simp only [wrgb, wsgb, sbA1_t, sbA1_f] at hw h ⊢
    all_goals
      refine wbb wgh ?_
      unfold wdi
      (repeat' (first | (simp -implicitDefEqProofs (maxSteps := 2000000) (disch := first | with_reducible assumption | omega | (simp only [zS, zA, seval, wji, wff, wso, zD] <;> omega) | fail) only [zS, argl, insA, Go.Den.wm, wo, wu, looks, wcb, wab, idOf, riA, seval, Go.Den.wh, kK, wfi, wcob, *, zT]) | (with_reducible (first | apply z1 | apply z2 | apply z3 | apply z4) <;> intro hq <;> (try simp only [zH] at hq) <;> (try (exfalso; omega)))))
      exact h
theorem wvdc (a : Bool) (l : List UInt8) (hl : l.length ≤ 2000000) : lim Try.prog cfg (.call 64 [sbP]) (HP (sbH a l)) = some (.val (str l), HP (sbH a l)) := by
  by_cases h : l = []
  · subst h
    rw [wgtb]
    exact wpnb a
  · rw [wilb h]
    exact wxcb l (List.length_pos_iff.2 h) hl
theorem wbv (m : Mt) (s : List UInt8) (hs : s.length ≤ 1000) : ∀ L : List Pc, (∀ p ∈ L, p.2.length ≤ 1000) → (wtl m s L).length ≤ L.length * 1000 := by
  intro L
  induction L with
  | nil => intro _; exact Nat.le_refl _
  | cons p L ih =>
    intro h
    have h1 := ih fun q hq => h q (List.mem_cons_of_mem _ hq)
    have h2 := wtx (m := m) hs (h p (List.mem_cons_self ..))
    unfold wtl at h1 ⊢
    rw [List.flatMap_cons, List.length_append, List.length_cons]
    omega
theorem wwdc (m : Mt) (s : List UInt8) (hs : s.length ≤ 1000) (L : List Pc) (hL : L.length ≤ 100) (hp : ∀ p ∈ L, p.2.length ≤ 1000) : lim Try.prog cfg (.call 78 [FL L.length (pcsC L), .agg ⟨mtC m⟩, str s]) (HP []) = some (.val (str (wtl m s L)), HP []) := by
  have h := fill_N m s hs L hL hp L.length 0 false (by omega)
  have hlen := wbv m s hs L hp
  rw [List.drop_zero, Bool.false_or, show ((0 : Nat) : Int) = 0 from rfl, show sbA1 false = .pointer none from rfl] at h
  generalize wtl m s L = R at *
  generalize decide (0 < L.length) = a at h
  have hw := wvdc a R (by omega)
  clear hp hlen
  refine wnb hc wvy (Nat.le_of_ble_eq_true rfl) (Nat.le_of_ble_eq_true rfl) ?_
  unfold wix
  by_cases hR : R = []
  case' pos =>
    subst hR
    rw [wgtb] at h hw
    cases a <;> simp only [wrgb, wsgb] at h hw
  case' neg => rw [wilb hR] at h hw
  all_goals (repeat' (first | (simp -implicitDefEqProofs (maxSteps := 2000000) (disch := first | with_reducible assumption | omega | (simp only [zS, zA, seval, wji, wff, wso, zD] <;> omega) | fail) only [zS, argl, insA, Go.Den.wm, wo, wu, looks, wcb, wab, idOf, riA, seval, Go.Den.wh, kK, wfi, *, zT]) | (with_reducible (first | apply z1 | apply z2 | apply z3 | apply z4) <;> intro hq <;> (try simp only [zH] at hq) <;> (try (exfalso; omega)))))
end
end Go.Proofs.Ytgpabbbibmnnlaa
namespace Go.Den
noncomputable section
section
variable {len : Nat} {s : List UInt8} {bol : Bool} {Q : St → Prop}
theorem weob {α : Type} (f : α → List St) : ∀ (l : List α), (∀ z ∈ l, ∀ y ∈ f z, Q y) → ∀ out : List St, (∀ y ∈ out, Q y) → ∀ y ∈ l.foldl (fun out z => addF out (f z)) out, Q y := by
  intro l
  induction l with
  | nil => intro _ out h; exact h
  | cons z l ih =>
    intro hf out h
    refine ih (fun z' hz' => hf z' (List.mem_cons_of_mem _ hz')) _ ?_
    intro y hy
    rcases (wmp _ _).1 hy with h1 | h1
    · exact h y h1
    · exact hf z (List.mem_cons_self ..) y h1
theorem inv_on {w : St → List St} {mn mx : Int} (hw : ∀ x, GdS len x → Q x → ∀ y ∈ w x, GdS len y ∧ Q y) : ∀ (k : Nat) (n : Int) (x : St) (a : List (Int × St) × List St), GdS len x → Q x → (∀ y ∈ a.2, Q y) → ∀ y ∈ (onF w mn mx k n x a).2, Q y := by
  intro k
  induction k with
  | zero => intro n x a _ _ h; exact h
  | succ k ih =>
    intro n x a hx hxq h
    have hf : ∀ (l : List St), (∀ y ∈ l, GdS len y ∧ Q y) → ∀ b : List (Int × St) × List St, (∀ y ∈ b.2, Q y) → ∀ y ∈ (l.foldl (fun b y => if y.1 ≠ x.1 ∨ n < mn then onF w mn mx k (n + 1) y b else b) b).2, Q y := by
      intro l
      induction l with
      | nil => intro _ b hb; exact hb
      | cons y l ih2 =>
        intro hl b hb
        have hy := hl y (List.mem_cons_self ..)
        refine ih2 (fun z hz => hl z (List.mem_cons_of_mem _ hz)) _ ?_
        show ∀ z ∈ (if y.1 ≠ x.1 ∨ n < mn then onF w mn mx k (n + 1) y b else b).2, Q z
        split
        · exact ih _ _ _ hy.1 hy.2 hb
        · exact hb
    unfold onF
    split
    · exact h
    · simp only
      have hb : ∀ y ∈ (if mx < 0 ∨ n < mx then (w x).foldl (fun b y => if y.1 ≠ x.1 ∨ n < mn then onF w mn mx k (n + 1) y b else b) (a.1 ++ [keyF mn mx n x], a.2) else (a.1 ++ [keyF mn mx n x], a.2)).2, Q y := by
        split
        · exact hf (w x) (hw x hx hxq) _ h
        · exact h
      split
      · intro y hy
        rcases (wmp _ _).1 hy with h1 | h1
        · exact hb y h1
        · rw [List.mem_singleton] at h1; subst h1; exact hxq
      · exact hb
theorem ways_inv (hs : s.length = len) (hmove : ∀ (x : St) (a : Int), Q x → x.1 ≤ a → Q (a, x.2)) (hgroup : ∀ (x y : St) (n : Int), Q x → Q y → x.1 ≤ y.1 → 1 ≤ n → n ≤ 3 → Q (y.1, (y.2.put (n.toNat * 2) x.1).put (n.toNat * 2 + 1) y.1)) :
    ∀ (r : Rx), okR r = true → ∀ x, GdS len x → Q x → ∀ y ∈ wcf s bol r x, Q y := by
  refine Rx.rec (motive_1 := fun r => okR r = true → ∀ x, GdS len x → Q x → ∀ y ∈ wcf s bol r x, Q y)
    (motive_2 := fun kids => okRs kids = true → (∀ r ∈ kids, okR r = true ∧ ∀ x, GdS len x → Q x → ∀ y ∈ wcf s bol r x, Q y)) ?_ ?_ ?_
  · intro k mn mx n set kids ih hok x hx hq
    have hrow := wqs (s := s) hs (bol := bol) _ hok x hx
    rw [okR, Bool.and_eq_true] at hok
    have hk := ih hok.2
    have hkq : ∀ r ∈ kids, ∀ x, GdS len x → Q x → ∀ y ∈ wcf s bol r x, GdS len y ∧ Q y ∧ x.1 ≤ y.1 := by
      intro r hr x hx hq y hy
      have h1 := (wqs (s := s) hs (bol := bol) r (hk r hr).1 x hx).good y hy
      exact ⟨h1.1, (hk r hr).2 x hx hq y hy, h1.2⟩
    have kid : kids ≠ [] → ∀ x, GdS len x → Q x → ∀ y ∈ kidF s bol kids x, GdS len y ∧ Q y ∧ x.1 ≤ y.1 := by
      intro hne y hy
      cases kids with
      | nil => exact absurd rfl hne
      | cons r rs => rw [kidF]; exact hkq r (List.mem_cons_self ..) y hy
    clear hrow
    rw [wcf]
    split
    · split
      · intro y hy; rw [List.mem_singleton] at hy; subst hy; exact hmove x _ hq (by omega)
      · intro y hy; cases hy
    split
    · split
      · intro y hy; rw [List.mem_singleton] at hy; subst hy; exact hq
      · intro y hy; cases hy
    split
    · split
      · intro y hy; rw [List.mem_singleton] at hy; subst hy; exact hq
      · intro y hy; cases hy
    split
    · rename_i h6
      have h := hok.1
      rw [if_neg (by omega), if_neg (by omega), if_pos h6] at h
      simp only [Bool.and_eq_true, decide_eq_true_eq] at h
      intro y hy
      have hb := (wrnb hs h.1 h.2 hx (n := n)).good y hy
      unfold wjlb at hy
      split at hy
      · cases hy
      split at hy
      · cases hy
      split at hy
      · cases hy
      rw [List.mem_singleton] at hy
      subst hy
      exact hmove x _ hq hb.2
    split
    · rename_i h5
      have h := hok.1
      rw [if_pos h5] at h
      simp only [Bool.and_eq_true, decide_eq_true_eq] at h
      refine weob (fun y : St => [(y.1, (y.2.put (n.toNat * 2) x.1).put (n.toNat * 2 + 1) y.1)]) _ (fun z hz y hy => ?_) _ (fun y hy => by cases hy)
      rw [List.mem_singleton] at hy
      subst hy
      have hz := kid h.1 x hx hq z hz
      exact hgroup x z n hq hz.2.1 hz.2.2 h.2.1 h.2.2
    split
    · have alt : ∀ (l : List Rx), (∀ r ∈ l, ∀ x, GdS len x → Q x → ∀ y ∈ wcf s bol r x, GdS len y ∧ Q y ∧ x.1 ≤ y.1) → ∀ out : List St, (∀ y ∈ out, Q y) → ∀ y ∈ altF s bol l x out, Q y := by
        intro l
        induction l with
        | nil => intro _ out h; rw [altF]; exact h
        | cons r l ih =>
          intro hl out h
          rw [altF]
          refine ih (fun r hr => hl r (List.mem_cons_of_mem _ hr)) _ ?_
          intro y hy
          rcases (wmp _ _).1 hy with h1 | h1
          · exact h y h1
          · exact (hl r (List.mem_cons_self ..) x hx hq y h1).2.1
      exact alt kids hkq [] (fun y hy => by cases hy)
    split
    · have cat : ∀ (l : List Rx), (∀ r ∈ l, ∀ x, GdS len x → Q x → ∀ y ∈ wcf s bol r x, GdS len y ∧ Q y ∧ x.1 ≤ y.1) → ∀ out : List St, (∀ y ∈ out, GdS len y ∧ Q y) → ∀ y ∈ catF s bol l out, Q y := by
        intro l
        induction l with
        | nil => intro _ out h; rw [catF]; exact fun y hy => (h y hy).2
        | cons r l ih =>
          intro hl out h
          rw [catF]
          refine ih (fun r hr => hl r (List.mem_cons_of_mem _ hr)) _ ?_
          refine weob (Q := fun y => GdS len y ∧ Q y) (fun y => wcf s bol r y) _ (fun z hz y hy => ?_) _ (fun y hy => by cases hy)
          have h1 := h z hz
          have h2 := hl r (List.mem_cons_self ..) z h1.1 h1.2 y hy
          exact ⟨h2.1, h2.2.1⟩
      exact cat kids hkq [x] (fun y hy => by rw [List.mem_singleton] at hy; subst hy; exact ⟨hx, hq⟩)
    split
    · rename_i h4
      have h := hok.1
      rw [if_neg (by omega), if_pos h4] at h
      simp only [Bool.and_eq_true, decide_eq_true_eq] at h
      exact inv_on (fun y hy hyq z hz => by have := kid h.1 y hy hyq z hz; exact ⟨this.1, this.2.1⟩) 100 0 x _ hx hq (fun y hy => by cases hy)
    · intro y hy; cases hy
  · intro _ r hr; cases hr
  · intro r rs ih1 ih2 hok
    rw [okRs, Bool.and_eq_true] at hok
    intro r' hr'
    rcases List.mem_cons.1 hr' with rfl | h
    · exact ⟨hok.1, ih1 hok.1⟩
    · exact ih2 hok.2 r' h
end
end
end Go.Den
namespace Go.Proofs.Ytgpabbbibmnnlaa
open Go.Den
noncomputable section
def Inn (a : Int) (x : St) : Prop := a ≤ x.1 ∧ ∀ g : Nat, 1 ≤ g → g ≤ 3 → 0 ≤ x.2.at (g * 2) → a ≤ x.2.at (g * 2) ∧ x.2.at (g * 2 + 1) ≤ x.1
theorem inn_ways {r : Rx} {s : List UInt8} {a : Int} : ∀ y ∈ wlk r s true a, Inn a y := by
  unfold wlk
  split
  · rename_i h
    refine ways_inv (Q := Inn a) (len := s.length) rfl ?_ ?_ r (wedb h.1) (a, wbl) (wndc h.2.1 h.2.2) ?_
    · intro x b hx hb
      refine ⟨Int.le_trans hx.1 hb, fun g g1 g3 h0 => ?_⟩
      have := hx.2 g g1 g3 h0
      exact ⟨this.1, Int.le_trans this.2 hb⟩
    · intro x y n hx hy hxy n1 n3
      refine ⟨hy.1, fun g g1 g3 h0 => ?_⟩
      have e0 : ((y.2.put (n.toNat * 2) x.1).put (n.toNat * 2 + 1) y.1).at (g * 2) = if n.toNat = g then x.1 else y.2.at (g * 2) := by
        rw [Mt.at_put, if_neg (by omega), Mt.at_put]
        by_cases hn : n.toNat = g
        · rw [if_pos (by omega), if_pos hn]
        · rw [if_neg (by omega), if_neg hn]
      have e1 : ((y.2.put (n.toNat * 2) x.1).put (n.toNat * 2 + 1) y.1).at (g * 2 + 1) = if n.toNat = g then y.1 else y.2.at (g * 2 + 1) := by
        rw [Mt.at_put, Mt.at_put]
        by_cases hn : n.toNat = g
        · rw [if_pos (by omega), if_pos hn]
        · rw [if_neg (by omega), if_neg (by omega), if_neg hn]
      simp only [e0, e1] at h0 ⊢
      by_cases hn : n.toNat = g
      · rw [if_pos hn, if_pos hn]; exact ⟨hx.1, Int.le_refl _⟩
      · rw [if_neg hn] at h0
        rw [if_neg hn, if_neg hn]; exact hy.2 g g1 g3 h0
    · refine ⟨Int.le_refl _, fun g g1 g3 h0 => ?_⟩
      exfalso
      have : wbl.at (g * 2) = -1 := by
        rcases (show g = 1 ∨ g = 2 ∨ g = 3 by omega) with rfl | rfl | rfl <;> rfl
      simp only [this] at h0
      omega
  · intro y hy; cases hy
theorem wux {r : Rx} {s : List UInt8} {a : Int} {m : Mt} (h : wxh r s a = some m) : ∃ b : St, wpo r = true ∧ wqo (wlk r s true (m.at 0)) none = some b ∧ m = (b.2.put 0 (m.at 0)).put 1 b.1 ∧ 0 ≤ a ∧ a ≤ m.at 0 ∧ m.at 0 ≤ s.length := by
  have hat := wro h
  unfold wxh at h
  split at h
  · rename_i hq
    obtain ⟨b, a2, h1, h2, h3, h4⟩ := wrx _ _ h
    subst h4
    rw [wpdc] at *
    exact ⟨b, hq.1, h3, rfl, hq.2.1, h1, by omega⟩
  · cases h
theorem wchb {r : Rx} {s : List UInt8} {a : Int} {m : Mt} (h : wxh r s a = some m) : wxh r s (m.at 0) = some m := by
  obtain ⟨b, hr, hb, hm, h0, h1, h2⟩ := wux h
  unfold wxh
  rw [if_pos ⟨hr, by omega, h2⟩]
  obtain ⟨k, hk⟩ : ∃ k, ((s.length : Int) + 1 - m.at 0).toNat = k + 1 := ⟨((s.length : Int) - m.at 0).toNat, by omega⟩
  rw [hk, wsl, hb]
  exact congrArg some hm.symm
def SpOk (m : Mt) : Prop := ∀ g : Nat, 1 ≤ g → g ≤ 3 → 0 ≤ m.at (g * 2) → m.at 0 ≤ m.at (g * 2) ∧ m.at (g * 2 + 1) ≤ m.at 1
theorem wxdc {r : Rx} {s : List UInt8} {a : Int} {m : Mt} (h : wxh r s a = some m) : SpOk m := by
  obtain ⟨b, hr, hb, hm, _⟩ := wux h
  have hi : Inn (m.at 0) b := by
    rcases waob _ _ _ hb with h1 | h1
    · exact inn_ways b h1
    · cases h1
  have hat1 : m.at 1 = b.1 := by rw [hm, wqdc]
  intro g g1 g3 h0
  have e0 : m.at (g * 2) = b.2.at (g * 2) := by
    conv => lhs; rw [hm]
    rw [Mt.at_put, if_neg (by omega), Mt.at_put, if_neg (by omega)]
  have e1 : m.at (g * 2 + 1) = b.2.at (g * 2 + 1) := by
    conv => lhs; rw [hm]
    rw [Mt.at_put, if_neg (by omega), Mt.at_put, if_neg (by omega)]
  rw [e0] at h0 ⊢
  rw [e1, hat1]
  exact hi.2 g g1 g3 h0
def BehF (r : Rx) (s : List UInt8) (p m : Mt) : Prop :=
  p.at 1 ≤ m.at 0 ∧ ¬ (m.at 0 = m.at 1 ∧ m.at 0 = p.at 1) ∧ ∃ x, wxh r s (p.at 1) = some x ∧ 0 ≤ x.at 0 ∧ x.at 0 ≤ m.at 0 ∧ (x.at 0 = m.at 0 ∨ x.at 0 = x.at 1)
structure MtOk (r : Rx) (s : List UInt8) (prev : Option Mt) (m : Mt) : Prop where
  lo : 0 ≤ m.at 0
  le : m.at 0 ≤ m.at 1
  hi : m.at 1 ≤ s.length
  sp : SpOk m
  fst : prev = none → wxh r s 0 = some m
  beh : ∀ p, prev = some p → BehF r s p m
def wvx (r : Rx) (s : List UInt8) : Option Mt → List Mt → Prop
  | _, [] => True
  | prev, m :: l => MtOk r s prev m ∧ wvx r s (some m) l
def AtF (r : Rx) (s : List UInt8) (a last : Int) : Option Mt → Prop
  | none => a = 0 ∧ last = -1
  | some p => p.at 1 = last ∧ 0 ≤ last ∧ (a = last ∨ (a = last + 1 ∧ ∃ x, wxh r s last = some x ∧ x.at 0 = last ∧ x.at 1 = last))
theorem mt_ok {r : Rx} {s : List UInt8} {a last : Int} {prev : Option Mt} {m : Mt} (hat : AtF r s a last prev) (hm : wxh r s a = some m) (hne : ¬ (m.at 0 = m.at 1 ∧ m.at 1 = last)) : MtOk r s prev m := by
  have h := wro hm
  refine ⟨by omega, h.2.2.1, h.2.2.2, wxdc hm, fun hp => ?_, fun p hp => ?_⟩
  · subst hp
    obtain ⟨rfl, _⟩ := hat
    exact hm
  · subst hp
    obtain ⟨h1, h0, h2⟩ := hat
    unfold BehF
    rw [h1]
    rcases h2 with rfl | ⟨rfl, x, hx, x0, x1⟩
    · exact ⟨h.2.1, fun hc => hne ⟨hc.1, by omega⟩, m, hm, by omega, Int.le_refl _, .inl rfl⟩
    · exact ⟨by omega, fun hc => by omega, x, hx, by omega, by omega, .inr (by omega)⟩
theorem wydc {r : Rx} {s : List UInt8} : ∀ (k : Nat) (a last : Int) (out : List Mt), AtF r s a last out.getLast? → ∃ l, (alF r s k a last out).2 = out ++ l ∧ wvx r s out.getLast? l := by
  intro k
  induction k with
  | zero => intro a last out _; exact ⟨[], by rw [alF, List.append_nil], trivial⟩
  | succ k ih =>
    intro a last out hat
    rw [alF]
    split
    · cases hf : wxh r s a with
      | none => exact ⟨[], by rw [List.append_nil], trivial⟩
      | some m =>
        have h := wro hf
        have hlast : (out ++ [m]).getLast? = some m := by simp
        simp only
        by_cases he : m.at 0 = m.at 1
        · rw [if_pos he]
          have hag := wchb hf
          by_cases hl : m.at 1 = last
          · rw [if_pos hl]
            refine ih _ _ _ ?_
            cases hp : out.getLast? with
            | none =>
              rw [hp] at hat
              obtain ⟨_, h2⟩ := hat
              omega
            | some p =>
              rw [hp] at hat
              obtain ⟨h1, h0, _⟩ := hat
              refine ⟨h1, h0, .inr ⟨by omega, m, ?_, by omega, by omega⟩⟩
              rw [he, hl] at hag
              exact hag
          · rw [if_neg hl]
            obtain ⟨l, h1, h2⟩ := ih (m.at 1 + 1) (m.at 1) (out ++ [m]) (by rw [hlast]; exact ⟨rfl, by omega, .inr ⟨rfl, m, by rw [he] at hag; exact hag, he, rfl⟩⟩)
            refine ⟨m :: l, by rw [h1, List.append_assoc]; rfl, mt_ok hat hf (fun hc => hl hc.2), ?_⟩
            rwa [hlast] at h2
        · rw [if_neg he]
          obtain ⟨l, h1, h2⟩ := ih (m.at 1) (m.at 1) (out ++ [m]) (by rw [hlast]; exact ⟨rfl, by omega, .inl rfl⟩)
          refine ⟨m :: l, by rw [h1, List.append_assoc]; rfl, mt_ok hat hf (fun hc => he hc.1), ?_⟩
          rwa [hlast] at h2
    · exact ⟨[], by rw [List.append_nil], trivial⟩
theorem wntb (r : Rx) (s : List UInt8) : wvx r s none (allR r s) := by
  obtain ⟨l, h1, h2⟩ := wydc (r := r) (s := s) (s.length + 1) 0 (-1) [] ⟨rfl, rfl⟩
  unfold allR
  rw [h1, List.nil_append]
  exact h2
theorem al_len {r : Rx} {s : List UInt8} : ∀ (k : Nat) (a last : Int) (out : List Mt), (alF r s k a last out).2.length ≤ out.length + k := by
  intro k
  induction k with
  | zero => intro a last out; exact Nat.le_refl _
  | succ k ih =>
    intro a last out
    rw [alF]
    split
    · split
      · exact Nat.le_add_right _ _
      · split
        · split
          · exact Nat.le_trans (ih _ _ _) (by omega)
          · refine Nat.le_trans (ih _ _ _) ?_
            rw [List.length_append, List.length_singleton]; omega
        · refine Nat.le_trans (ih _ _ _) ?_
          rw [List.length_append, List.length_singleton]; omega
    · exact Nat.le_add_right _ _
theorem allR_len (r : Rx) (s : List UInt8) : (allR r s).length ≤ s.length + 1 := by
  have := al_len (r := r) (s := s) (s.length + 1) 0 (-1) []
  rw [List.length_nil, Nat.zero_add] at this
  exact this
end
end Go.Proofs.Ytgpabbbibmnnlaa
namespace Go.Proofs.Ytgpabbbibmnnlaa
set_option linter.unusedVariables false
set_option linter.unusedSimpArgs false
open Go.Den
noncomputable section
theorem len_0 (a : Bool) : lim Try.prog cfg (.call 79 [sbP]) (HP [X [sbA a, .slice none 0 0] SB 0 false]) = some (.val (.int .i64 0), HP [X [sbA a, .slice none 0 0] SB 0 false]) := by
  refine wnb hc wbh (Nat.le_of_ble_eq_true rfl) (Nat.le_of_ble_eq_true rfl) ?_
  unfold wuf
  cases a with
  | true =>
    rw [show sbA true = sbP from rfl]
    (repeat' (first | (simp -implicitDefEqProofs (maxSteps := 2000000) (disch := first | with_reducible assumption | omega | (simp only [zS, zA, seval, zD] <;> omega) | fail) only [zS, argl, insA, Go.Den.wm, wo, wu, looks, wcb, wab, idOf, riA, seval, Go.Den.wh, kK, *, zT]) | (with_reducible (first | apply z1 | apply z2 | apply z3 | apply z4) <;> intro hq <;> (try simp only [zH] at hq) <;> (try (exfalso; omega)))))
    all_goals rfl
  | false =>
    rw [show sbA false = .pointer none from rfl]
    (repeat' (first | (simp -implicitDefEqProofs (maxSteps := 2000000) (disch := first | with_reducible assumption | omega | (simp only [zS, zA, seval, zD] <;> omega) | fail) only [zS, argl, insA, Go.Den.wm, wo, wu, looks, wcb, wab, idOf, riA, seval, Go.Den.wh, kK, *, zT]) | (with_reducible (first | apply z1 | apply z2 | apply z3 | apply z4) <;> intro hq <;> (try simp only [zH] at hq) <;> (try (exfalso; omega)))))
    all_goals rfl
theorem len_1 (l : List UInt8) : lim Try.prog cfg (.call 79 [sbP]) (HP [X [sbP, FO 1 l.length (u8s l)] SB 0 false, .tok l.length BY 1]) = some (.val (.int .i64 l.length), HP [X [sbP, FO 1 l.length (u8s l)] SB 0 false, .tok l.length BY 1]) := by
  refine wnb hc wbh (Nat.le_of_ble_eq_true rfl) (Nat.le_of_ble_eq_true rfl) ?_
  unfold wuf
  (repeat' (first | (simp -implicitDefEqProofs (maxSteps := 2000000) (disch := first | with_reducible assumption | omega | (simp only [zS, zA, seval, zD] <;> omega) | fail) only [zS, argl, insA, Go.Den.wm, wo, wu, looks, wcb, wab, idOf, riA, seval, Go.Den.wh, kK, *, zT]) | (with_reducible (first | apply z1 | apply z2 | apply z3 | apply z4) <;> intro hq <;> (try simp only [zH] at hq) <;> (try (exfalso; omega)))))
def wcl (L : List Pc) (s : List UInt8) : Int → List Mt → List UInt8
  | a, [] => s.drop a.toNat
  | a, m :: ms => (s.take (m.at 0).toNat).drop a.toNat ++ (wtl m s L ++ wcl L s (m.at 1) ms)
def wmk (L : List Pc) (s : List UInt8) : Int → List Mt → List UInt8
  | _, [] => []
  | a, m :: ms => (s.take (m.at 0).toNat).drop a.toNat ++ (wtl m s L ++ wmk L s (m.at 1) ms)
def endF : Int → List Mt → Int
  | a, [] => a
  | _, m :: ms => endF (m.at 1) ms
theorem wqlb (L : List Pc) (s : List UInt8) : ∀ (ms : List Mt) (a : Int), wcl L s a ms = wmk L s a ms ++ s.drop (endF a ms).toNat := by
  intro ms
  induction ms with
  | nil => intro a; rw [wcl, wmk, endF, List.nil_append]
  | cons m ms ih => intro a; rw [wcl, wmk, endF, ih, List.append_assoc, List.append_assoc]
def rowF (n : Nat) : Int → List Mt → Prop
  | _, [] => True
  | a, m :: ms => a ≤ m.at 0 ∧ m.at 0 ≤ m.at 1 ∧ m.at 1 ≤ n ∧ rowF n (m.at 1) ms
theorem wdhb {l : List Mt} {i : Nat} (h : i < l.length) : l.drop i = l.getD i Mt.zero :: l.drop (i + 1) := by
  rw [List.drop_eq_getElem_cons h, List.getD_eq_getElem?_getD, List.getElem?_eq_getElem h]; rfl
abbrev stP0 : Value := .pointer (some ⟨0, 0, none⟩)
def wrlb (s : List UInt8) (a b : Int) : List UInt8 := (s.take b.toNat).drop a.toNat
theorem wfdb {s : List UInt8} {a b : Int} : (wrlb s a b).length ≤ s.length := by unfold wrlb; rw [List.length_drop, List.length_take]; omega
set_option maxRecDepth 200000 in
set_option maxHeartbeats 4000000 in
theorem subst_C (L : List Pc) (hL : L.length ≤ 5) (hp : ∀ p ∈ L, p.2.length ≤ 1000) (s : List UInt8) (hs : s.length ≤ 1000) (ms : List Mt) (hm : ms.length ≤ 13) : ∀ (k i : Nat) (a : Int) (l : List UInt8), i + k = ms.length → 0 ≤ a → rowF s.length a (ms.drop i) → l ≠ [] → l.length ≤ 6000 + i * 6000 →
    lim Try.prog cfg (.loop 40 0 (wvh 0) (SE (EJ 66 G0) [(38, .int .i64 i), (37, .int .i64 ms.length), (36, FL ms.length (mtsC ms)), (15, .int .i64 a), (14, stP0), (2, str s), (1, FL L.length (pcsC L))])) (HP [X [sbP, FO 1 l.length (u8s l)] SB 0 false, .tok l.length BY 1]) = some (.code (.exit 0) (SE (EJ 66 G0) [(15, .int .i64 (endF a (ms.drop i))), (14, stP0), (2, str s)]), HP [X [sbP, FO 1 (l ++ wmk L s a (ms.drop i)).length (u8s (l ++ wmk L s a (ms.drop i)))] SB 0 false, .tok (l ++ wmk L s a (ms.drop i)).length BY 1]) := by
  intro k
  induction k with
  | zero =>
    intro i a l hi ha hr hne hl
    clear hp hr
    rw [List.drop_of_length_le (by omega), wmk, endF, List.append_nil]
    refine wbb wqg ?_
    unfold wah
    (repeat' (first | (simp -implicitDefEqProofs (maxSteps := 2000000) (disch := first | with_reducible assumption | omega | (simp only [zS, zA, seval, wji, wgf, wso, zD] <;> omega) | fail) only [zS, argl, insA, Go.Den.wm, wo, wu, looks, wcb, wab, idOf, riA, seval, Go.Den.wh, kK, wch, *, zT]) | (with_reducible (first | apply z1 | apply z2 | apply z3 | apply z4) <;> intro hq <;> (try simp only [zH] at hq) <;> (try (exfalso; omega)))))
  | succ k ih =>
    intro i a l hi ha hr hne hl
    have hlt : i < ms.length := by omega
    rw [wdhb hlt] at hr ⊢
    obtain ⟨r1, r2, r3, r4⟩ := hr
    rw [wmk, endF]
    have hf := wwdc (ms.getD i Mt.zero) s hs L (by omega) hp
    have hfl := wbv (ms.getD i Mt.zero) s hs L hp
    have hsl : wrlb s a ((ms.getD i Mt.zero).at 0) = (s.take ((ms.getD i Mt.zero).at 0).toNat).drop a.toNat := rfl
    have hll := wfdb (s := s) (a := a) (b := (ms.getD i Mt.zero).at 0)
    generalize wtl (ms.getD i Mt.zero) s L = p at *
    rw [← hsl]
    generalize wrlb s a ((ms.getD i Mt.zero).at 0) = q at *
    replace hsl := hsl.symm
    have hpl : p.length ≤ 5000 := by omega
    have hi2 : i + 1 + k = ms.length := by omega
    have ha2 : 0 ≤ (ms.getD i Mt.zero).at 1 := by omega
    have hb1 : l.length + q.length ≤ 2000000 := by omega
    have hb2 : l.length + q.length + p.length ≤ 2000000 := by omega
    have hb3 : l.length + q.length + p.length ≤ 6000 + (i + 1) * 6000 := by omega
    have hb4 : l.length + p.length ≤ 2000000 := by omega
    have w1 := wnt l q hb1
    have w2 := wnt (l ++ q) p (by rw [List.length_append]; exact hb2)
    have h := ih (i + 1) ((ms.getD i Mt.zero).at 1) (l ++ q ++ p) hi2 ha2 r4 (by simp [hne]) (by rw [List.length_append, List.length_append]; exact hb3)
    clear ih hp r4 hb1 hb2 hb3 hb4 hfl hll hpl hl
    rw [show l ++ (q ++ (p ++ wmk L s ((ms.getD i Mt.zero).at 1) (ms.drop (i + 1)))) = l ++ q ++ p ++ wmk L s ((ms.getD i Mt.zero).at 1) (ms.drop (i + 1)) by simp only [List.append_assoc]]
    generalize l ++ q ++ p ++ wmk L s ((ms.getD i Mt.zero).at 1) (ms.drop (i + 1)) = R at h ⊢
    generalize l ++ q ++ p = l3 at h w2
    generalize l ++ q = l2 at w1 w2
    refine wbb wqg ?_
    unfold wah
    (repeat' (first | (simp -implicitDefEqProofs (maxSteps := 2000000) (disch := first | with_reducible assumption | omega | (simp only [zS, zA, seval, wji, wgf, wff, wso, zD] <;> omega) | fail) only [zS, argl, insA, Go.Den.wm, wo, wu, looks, wcb, wab, idOf, riA, seval, Go.Den.wh, kK, wch, *, zT]) | (with_reducible (first | apply z1 | apply z2 | apply z3 | apply z4) <;> intro hq <;> (try simp only [zH] at hq) <;> (try (exfalso; omega)))))
    all_goals exact h
set_option maxRecDepth 20000 in
set_option maxHeartbeats 4000000 in
theorem subst_N (L : List Pc) (hL : L.length ≤ 5) (hp : ∀ p ∈ L, p.2.length ≤ 1000) (s : List UInt8) (hs : s.length ≤ 1000) (ms : List Mt) (hm : ms.length ≤ 13) : ∀ (k i : Nat) (a : Bool) (p0 : Int), i + k = ms.length → 0 ≤ p0 → rowF s.length p0 (ms.drop i) →
    lim Try.prog cfg (.loop 40 0 (wvh 0) (SE (EJ 66 G0) [(38, .int .i64 i), (37, .int .i64 ms.length), (36, FL ms.length (mtsC ms)), (15, .int .i64 p0), (14, stP0), (2, str s), (1, FL L.length (pcsC L))])) (HP [X [sbA a, .slice none 0 0] SB 0 false]) = some (.code (.exit 0) (SE (EJ 66 G0) [(15, .int .i64 (endF p0 (ms.drop i))), (14, stP0), (2, str s)]), HP (sbH (a || decide (0 < k)) (wmk L s p0 (ms.drop i)))) := by
  intro k
  induction k with
  | zero =>
    intro i a p0 hi ha hr
    clear hp hr
    rw [List.drop_of_length_le (by omega), wmk, endF, wgtb, show (a || decide (0 < 0)) = a by cases a <;> rfl]
    cases a <;> simp only [wrgb, wsgb]
    all_goals
      refine wbb wqg ?_
      unfold wah
      (repeat' (first | (simp -implicitDefEqProofs (maxSteps := 2000000) (disch := first | with_reducible assumption | omega | (simp only [zS, zA, seval, wji, wgf, wff, wso, zD] <;> omega) | fail) only [zS, argl, insA, Go.Den.wm, wo, wu, looks, wcb, wab, idOf, riA, seval, Go.Den.wh, kK, wch, *, zT]) | (with_reducible (first | apply z1 | apply z2 | apply z3 | apply z4) <;> intro hq <;> (try simp only [zH] at hq) <;> (try (exfalso; omega)))))
  | succ k ih =>
    intro i a p0 hi ha hr
    have hlt : i < ms.length := by omega
    rw [wdhb hlt] at hr ⊢
    obtain ⟨r1, r2, r3, r4⟩ := hr
    rw [wmk, endF]
    have hf := wwdc (ms.getD i Mt.zero) s hs L (by omega) hp
    have hfl := wbv (ms.getD i Mt.zero) s hs L hp
    have hsl : wrlb s p0 ((ms.getD i Mt.zero).at 0) = (s.take ((ms.getD i Mt.zero).at 0).toNat).drop p0.toNat := rfl
    have hll := wfdb (s := s) (a := p0) (b := (ms.getD i Mt.zero).at 0)
    have hC := subst_C L hL hp s hs ms hm k (i + 1) ((ms.getD i Mt.zero).at 1)
    generalize wtl (ms.getD i Mt.zero) s L = p at *
    rw [← hsl]
    generalize wrlb s p0 ((ms.getD i Mt.zero).at 0) = q at *
    replace hsl := hsl.symm
    have hpl : p.length ≤ 5000 := by omega
    have hi2 : i + 1 + k = ms.length := by omega
    have ha2 : 0 ≤ (ms.getD i Mt.zero).at 1 := by omega
    have hb1 : q.length ≤ 2000000 := by omega
    have hb2 : q.length + p.length ≤ 2000000 := by omega
    have hb3 : q.length + p.length ≤ 6000 + (i + 1) * 6000 := by omega
    have hb4 : p.length ≤ 2000000 := by omega
    have hb5 : p.length ≤ 6000 + (i + 1) * 6000 := by omega
    have hat : (a || decide (0 < k + 1)) = true := by rw [decide_eq_true (Nat.succ_pos k), Bool.or_true]
    rw [hat]
    clear hat
    by_cases q0 : q = []
    case' neg =>
      have w1 := wav a q hb1 q0
      have w2 := wnt q p hb2
      have h := hC (q ++ p) hi2 ha2 r4 (by simp [q0]) (by rw [List.length_append]; exact hb3)
      rw [← List.append_assoc, wilb (show q ++ p ++ wmk L s ((ms.getD i Mt.zero).at 1) (ms.drop (i + 1)) ≠ [] by simp [q0])]
      generalize q ++ p ++ wmk L s ((ms.getD i Mt.zero).at 1) (ms.drop (i + 1)) = R at h ⊢
      generalize q ++ p = l3 at h w2
    case' pos =>
      rw [q0] at hsl
      rw [q0, List.nil_append]
      have w1 := wzu a
      by_cases p1 : p = []
      case' pos =>
        rw [p1] at hf
        rw [p1, List.nil_append]
        have w2 := wzu true
        have h := ih (i + 1) true ((ms.getD i Mt.zero).at 1) hi2 ha2 r4
        rw [Bool.true_or] at h
        generalize sbH true (wmk L s ((ms.getD i Mt.zero).at 1) (ms.drop (i + 1))) = R at h ⊢
      case' neg =>
        have w2 := wav true p hb4 p1
        have h := hC p hi2 ha2 r4 p1 hb5
        rw [wilb (show p ++ wmk L s ((ms.getD i Mt.zero).at 1) (ms.drop (i + 1)) ≠ [] by simp [p1])]
        generalize p ++ wmk L s ((ms.getD i Mt.zero).at 1) (ms.drop (i + 1)) = R at h ⊢
      all_goals clear p1
    all_goals
      clear ih hp r4 hb1 hb2 hb3 hb4 hb5 hfl hll hpl hC q0
      cases a <;> simp only [wrgb, wsgb] at w1 w2 h ⊢
    all_goals
      refine wbb wqg ?_
      unfold wah
      (repeat' (first | (simp -implicitDefEqProofs (maxSteps := 2000000) (disch := first | with_reducible assumption | omega | (simp only [zS, zA, seval, wji, wgf, wff, wso, zD] <;> omega) | fail) only [zS, argl, insA, Go.Den.wm, wo, wu, looks, wcb, wab, idOf, riA, seval, Go.Den.wh, kK, wch, *, zT]) | (with_reducible (first | apply z1 | apply z2 | apply z3 | apply z4) <;> intro hq <;> (try simp only [zH] at hq) <;> (try (exfalso; omega)))))
      exact h
theorem wzdc {r : Rx} {s : List UInt8} : ∀ (l : List Mt) (p : Mt), wvx r s (some p) l → rowF s.length (p.at 1) l := by
  intro l
  induction l with
  | nil => intro p _; trivial
  | cons m l ih =>
    intro p h
    have hb := h.1.beh p rfl
    exact ⟨hb.1, h.1.le, h.1.hi, ih m h.2⟩
theorem wotb {r : Rx} {s : List UInt8} {prev : Option Mt} {l : List Mt} (h : wvx r s prev l) : rowF s.length 0 l := by
  cases l with
  | nil => trivial
  | cons m l => exact ⟨h.1.lo, h.1.le, h.1.hi, wzdc l m h.2⟩
theorem wptb {r : Rx} {s : List UInt8} : ∀ (n : Nat) (l : List Mt) (prev : Option Mt), wvx r s prev l → ∃ q, wvx r s q (l.drop n) := by
  intro n
  induction n with
  | zero => intro l prev h; exact ⟨prev, h⟩
  | succ n ih =>
    intro l prev h
    cases l with
    | nil => exact ⟨prev, trivial⟩
    | cons m l => exact ih l (some m) h.2
theorem row_take {n : Nat} : ∀ (l : List Mt) (a : Int) (k : Nat), rowF n a l → rowF n a (l.take k) := by
  intro l
  induction l with
  | nil => intro a k _; rw [List.take_nil]; trivial
  | cons m l ih =>
    intro a k h
    cases k with
    | zero => trivial
    | succ k => exact ⟨h.1, h.2.1, h.2.2.1, ih _ k h.2.2.2⟩
theorem row_end {n : Nat} : ∀ (l : List Mt) (a : Int), 0 ≤ a → a ≤ n → rowF n a l → 0 ≤ endF a l ∧ endF a l ≤ n := by
  intro l
  induction l with
  | nil => intro a h0 h1 _; exact ⟨h0, h1⟩
  | cons m l ih =>
    intro a h0 h1 h
    obtain ⟨r1, r2, r3, r4⟩ := h
    exact ih _ (by omega) r3 r4
def askF (r : Rx) (s : List UInt8) (n : Nat) (global : Bool) : List Mt := if global = true then (allR r s).drop n else ((allR r s).drop n).take 1
def subR (r : Rx) (L : List Pc) (s : List UInt8) (n : Nat) (global : Bool) : List UInt8 × Bool :=
  if (allR r s).length ≤ n then (s, false) else if 400 < (wcl L s 0 (askF r s n global)).length then (s, false) else (wcl L s 0 (askF r s n global), true)
def slG (size n : Nat) (cs : List Value) : Option Nat → Option Nat → ARes
  | some l, some h => bif Nat.ble l h && (Nat.ble h n && Nat.beq (n * size) cs.length) then (bif Nat.beq l h then val (FL 0 []) else val (FL (h - l) (slotsOf cs (l * size) ((h - l) * size)))) else .none
  | _, _ => .none
theorem slS_FLa {e : Env} {H : AH} {size n : Nat} {cs : List Value} {x : Operand} : slSR e H size (FL n cs) (some x) none none = slG size n cs (wih (evl e x)) (some n) := by
  show (match wih (evl e x), some n with
    | some l, some h => slF2 size (n, cs) e none none l h
    | _, _ => .none) = _
  cases wih (evl e x) <;> rfl
theorem slS_FLb {e : Env} {H : AH} {size n : Nat} {cs : List Value} {y : Operand} : slSR e H size (FL n cs) none (some y) none = slG size n cs (some 0) (wih (evl e y)) := by
  show (match some 0, wih (evl e y) with
    | some l, some h => slF2 size (n, cs) e (some y) none l h
    | _, _ => .none) = _
  cases wih (evl e y) <;> rfl
theorem slG_some {size n l h : Nat} {cs : List Value} (h1 : l < h) (h2 : h ≤ n) (h3 : n * size = cs.length) : slG size n cs (some l) (some h) = val (FL (h - l) (slotsOf cs (l * size) ((h - l) * size))) := by
  show (bif Nat.ble l h && (Nat.ble h n && Nat.beq (n * size) cs.length) then (bif Nat.beq l h then val (FL 0 []) else _) else .none) = _
  rw [nble, nble, nbeq, nbeq, decide_eq_true (Nat.le_of_lt h1), decide_eq_true h2, decide_eq_true h3, decide_eq_false (by omega)]
  rfl
theorem waec {l : List Mt} {n k : Nat} (h : n + k ≤ l.length) : slotsOf (mtsC l) (n * 8) (k * 8) = mtsC ((l.drop n).take k) := by
  induction l generalizing n with
  | nil =>
    have : n = 0 ∧ k = 0 := by simp at h; omega
    rw [this.1, this.2]; rfl
  | cons m l ih =>
    cases n with
    | succ n =>
      have h2 := ih (n := n) (by rw [List.length_cons] at h; omega)
      rw [List.drop_succ_cons, ← h2]
      unfold slotsOf
      rw [show mtsC (m :: l) = mtC m ++ mtsC l by rw [mtsC, mtsC, List.flatMap_cons], show (n + 1) * 8 = (mtC m).length + n * 8 by rw [wbu]; omega, List.drop_append, List.drop_of_length_le (by omega), List.nil_append]
      congr 2
      omega
    | zero =>
      clear ih
      rw [List.drop_zero, Nat.zero_mul]
      generalize m :: l = l at *
      unfold slotsOf
      rw [List.drop_zero]
      induction k generalizing l with
      | zero => rw [Nat.zero_mul, List.take_zero, List.take_zero]; rfl
      | succ k ih =>
        cases l with
        | nil => simp at h
        | cons m l =>
          rw [List.take_succ_cons, show mtsC (m :: l) = mtC m ++ mtsC l by rw [mtsC, mtsC, List.flatMap_cons], show mtsC (m :: l.take k) = mtC m ++ mtsC (l.take k) by rw [mtsC, mtsC, List.flatMap_cons]]
          rw [← ih l (by rw [List.length_cons] at h; omega), show (k + 1) * 8 = (mtC m).length + k * 8 by rw [wbu]; omega, List.take_append]
          rw [List.take_of_length_le (show (mtC m).length ≤ (mtC m).length + k * 8 by omega)]
          congr 2
          omega
end
end Go.Proofs.Ytgpabbbibmnnlaa
