/-
  PARTS OF A PROOF, joined by a program (8 of 8): a proved reckoner of the model, and what the functions come to.
-/
import Derived.Test.YtgpabbbibmnnlaaQWayBack7
import Derived.ChangeSame
import Derived.WideKeyArgs
import Derived.OpenShut
import Derived.WideKeyPair
import Derived.ChangeSlices
set_option linter.unusedVariables false
set_option linter.unusedSimpArgs false
namespace Go.Proofs.Ytgpabbbibmnnlaa
set_option linter.unusedVariables false
set_option linter.unusedSimpArgs false
open Go.Den
noncomputable section
theorem ev_ins0 : lim Try.prog cfg (.call 126 [.slice none 0 0, .int .i64 0, .int .i64 0]) (HP []) = some (.val (.tuple ⟨[]⟩), HP []) := by
  have h : lim Try.prog cfg (.loop 126 0 (whb 0) (SE (EJ 49 G1) [(6, .int .i64 1), (2, .int .i64 0), (1, .int .i64 0), (0, .slice none 0 0)])) (HP []) = some (.code (.exit 0) (SE (EJ 49 G1) []), HP []) := by
    refine wfb wyd ?_
    unfold wad
    (repeat' (first | (simp -implicitDefEqProofs (maxSteps := 2000000) (disch := first | with_reducible assumption | omega | (simp only [zS, zA, seval, zD] <;> omega) | fail) only [zS, argl, insA, Go.Den.wh, wo, ww, looks, wbb, wab, idOf, riA, seval, Go.Den.wm, kK, wdc, *, zT]) | (with_reducible (first | apply z1 | apply z2 | apply z3 | apply z4) <;> intro hq <;> (try simp only [zH] at hq) <;> (try (exfalso; omega)))))
  refine wrb hc weg (Nat.le_of_ble_eq_true rfl) (Nat.le_of_ble_eq_true rfl) ?_
  unfold wye
  (repeat' (first | (simp -implicitDefEqProofs (maxSteps := 2000000) (disch := first | with_reducible assumption | omega | (simp only [zS, zA, seval, zD] <;> omega) | fail) only [zS, argl, insA, Go.Den.wh, wo, ww, looks, wbb, wab, idOf, riA, seval, Go.Den.wm, kK, wdc, *, zT]) | (with_reducible (first | apply z1 | apply z2 | apply z3 | apply z4) <;> intro hq <;> (try simp only [zH] at hq) <;> (try (exfalso; omega)))))
theorem ev_pdq0 (k : Int) : lim Try.prog cfg (.call 106 [.slice none 0 0, .int .i64 0, .int .i64 0, .int .i64 k]) (HP []) = some (.val (.tuple ⟨[]⟩), HP []) := by
  have h := ev_ins0
  have hp : lim Try.prog cfg (.loop 106 0 (wud 0) (SE (EJ 134 G1) [(9, .bool true), (8, .bool true), (3, .int .i64 k), (2, .int .i64 0), (1, .int .i64 0), (0, .slice none 0 0)])) (HP []) = some (.code .ret (SE (EJ 134 G1) []), HP []) := by
    refine wfb wdh ?_
    unfold wjf
    (repeat' (first | (simp -implicitDefEqProofs (maxSteps := 2000000) (disch := first | with_reducible assumption | omega | (simp only [zS, zA, seval, zD] <;> omega) | fail) only [zS, argl, insA, Go.Den.wh, wo, ww, looks, wbb, wab, idOf, riA, seval, Go.Den.wm, kK, wee, wsb, wsc, *, zT]) | (with_reducible (first | apply z1 | apply z2 | apply z3 | apply z4) <;> intro hq <;> (try simp only [zH] at hq) <;> (try (exfalso; omega))) | (with_reducible apply z5; (case hl => (repeat (first | exact .nil | with_reducible apply z6 | with_reducible apply z7))); (case h => kernel_rfl))))
  refine wrb hc wqh (Nat.le_of_ble_eq_true rfl) (Nat.le_of_ble_eq_true rfl) ?_
  unfold wgg
  (repeat' (first | (simp -implicitDefEqProofs (maxSteps := 2000000) (disch := first | with_reducible assumption | omega | (simp only [zS, zA, seval, zD] <;> omega) | fail) only [zS, argl, insA, Go.Den.wh, wo, ww, looks, wbb, wab, idOf, riA, seval, Go.Den.wm, kK, wee, wsb, wsc, *, zT]) | (with_reducible (first | apply z1 | apply z2 | apply z3 | apply z4) <;> intro hq <;> (try simp only [zH] at hq) <;> (try (exfalso; omega))) | (with_reducible apply z5; (case hl => (repeat (first | exact .nil | with_reducible apply z6 | with_reducible apply z7))); (case h => kernel_rfl))))
set_option maxRecDepth 100000 in
theorem ev_Len64 (n : Nat) (hn : n ≤ 12) : ∃ k : Int, lim Try.prog cfg (.call 136 [.int .u64 n]) (HP []) = some (.val (.int .i64 k), HP []) := by
  rcases (show n = 0 ∨ n = 1 ∨ n = 2 ∨ n = 3 ∨ n = 4 ∨ n = 5 ∨ n = 6 ∨ n = 7 ∨ n = 8 ∨ n = 9 ∨ n = 10 ∨ n = 11 ∨ n = 12 by omega) with rfl | rfl | rfl | rfl | rfl | rfl | rfl | rfl | rfl | rfl | rfl | rfl | rfl
  case' inl => refine ⟨0, ?_⟩
  case' inr.inl => refine ⟨1, ?_⟩
  case' inr.inr.inl => refine ⟨2, ?_⟩
  case' inr.inr.inr.inl => refine ⟨2, ?_⟩
  case' inr.inr.inr.inr.inl => refine ⟨3, ?_⟩
  case' inr.inr.inr.inr.inr.inl => refine ⟨3, ?_⟩
  case' inr.inr.inr.inr.inr.inr.inl => refine ⟨3, ?_⟩
  case' inr.inr.inr.inr.inr.inr.inr.inl => refine ⟨3, ?_⟩
  case' inr.inr.inr.inr.inr.inr.inr.inr.inl => refine ⟨4, ?_⟩
  case' inr.inr.inr.inr.inr.inr.inr.inr.inr.inl => refine ⟨4, ?_⟩
  case' inr.inr.inr.inr.inr.inr.inr.inr.inr.inr.inl => refine ⟨4, ?_⟩
  case' inr.inr.inr.inr.inr.inr.inr.inr.inr.inr.inr.inl => refine ⟨4, ?_⟩
  case' inr.inr.inr.inr.inr.inr.inr.inr.inr.inr.inr.inr => refine ⟨4, ?_⟩
  all_goals
    refine wrb hc wqq (Nat.le_of_ble_eq_true rfl) (Nat.le_of_ble_eq_true rfl) ?_
    unfold wen
    (repeat' (first | (simp -implicitDefEqProofs (maxSteps := 2000000) (disch := first | with_reducible assumption | omega | (simp only [zS, zA, seval] <;> omega) | fail) only [zS, argl, insA, Go.Den.wh, wo, ww, looks, wbb, wab, idOf, riA, seval, Go.Den.wm, kK, *]) | (with_reducible (first | apply z1 | apply z2 | apply z3 | apply z4) <;> intro hq <;> (try simp only [zH] at hq) <;> (try (exfalso; omega)))))
    all_goals rfl
theorem ev_Len (n : Nat) (hn : n ≤ 12) : ∃ k : Int, lim Try.prog cfg (.call 107 [.int .u64 n]) (HP []) = some (.val (.int .i64 k), HP []) := by
  obtain ⟨k, h⟩ := ev_Len64 n hn
  refine ⟨k, ?_⟩
  refine wrb hc wws (Nat.le_of_ble_eq_true rfl) (Nat.le_of_ble_eq_true rfl) ?_
  unfold whp
  (repeat' (first | (simp -implicitDefEqProofs (maxSteps := 2000000) (disch := first | with_reducible assumption | omega | (simp only [zS, zA, seval] <;> omega) | fail) only [zS, argl, insA, Go.Den.wh, wo, ww, looks, wbb, wab, idOf, riA, seval, Go.Den.wm, kK, *]) | (with_reducible (first | apply z1 | apply z2 | apply z3 | apply z4) <;> intro hq <;> (try simp only [zH] at hq) <;> (try (exfalso; omega)))))
theorem ev_Sort (l : List Int) (h0 : 0 < l.length) (h12 : l.length ≤ 12) : lim Try.prog cfg (.call 76 [slV l.length]) (HP (yB l)) = some (.val (.tuple ⟨[]⟩), HP (yB (wpp l))) := by
  obtain ⟨k, hk⟩ := ev_Len l.length h12
  have h := ev_pdq l h0 h12 k
  have hl := wmu l
  unfold yB at h ⊢
  rw [hl] at h ⊢
  generalize wpp l = m at *
  obtain ⟨rr, rn⟩ := rY h0
  refine wrb hc wmj (Nat.le_of_ble_eq_true rfl) (Nat.le_of_ble_eq_true rfl) ?_
  unfold wji
  (repeat' (first | (simp -implicitDefEqProofs (maxSteps := 2000000) (disch := first | with_reducible assumption | omega | (simp only [zS, zA, seval, rr, rn, wjb, zD, wld, wvh, wql, wmd, wrl, wtf, wsl, wne, wuf, woe, wvf, wnd, wyk, wpe, wlk, wpc, wtl, wob, wpb, wfe, wge, wfc, wgc, whe, wkf, wlf, wme, whc, wyb, wed, wic, wfd, wjc, wuh, wie, wje, wmf, wnf, wgd, wkc, wof, wke, wle, wlc, wzb, wpf, wqf, wmc, whd, wrf, wjd, wnc, wvc, wvd, woc, wsf, wkd, Bool.false_and] <;> omega) | fail) only [zS, argl, insA, Go.Den.wh, wo, ww, looks, wbb, wab, idOf, riA, seval, Go.Den.wm, kK, rr, rn, wjb, Nat.mul_one, Nat.max_self, *, zT, wld, wvh, wql, wmd, wrl, wtf, wsl, wne, wuf, woe, wvf, wnd, wyk, wpe, wlk, wpc, wtl, wob, wpb, wfe, wge, wfc, wgc, whe, wkf, wlf, wme, whc, wyb, wed, wic, wfd, wjc, wuh, wie, wje, wmf, wnf, wgd, wkc, wof, wke, wle, wlc, wzb, wpf, wqf, wmc, whd, wrf, wjd, wnc, wvc, wvd, woc, wsf, wkd, Bool.false_and]) | (with_reducible (first | apply z1 | apply z2 | apply z3 | apply z4) <;> intro hq <;> (try simp only [zH] at hq) <;> (try (exfalso; omega)))))
theorem ev_Sort0 : lim Try.prog cfg (.call 76 [.slice none 0 0]) (HP []) = some (.val (.tuple ⟨[]⟩), HP []) := by
  obtain ⟨k, hk⟩ := ev_Len 0 (by omega)
  have h := ev_pdq0 k
  rw [show ((0 : Nat) : Int) = 0 from rfl] at hk
  refine wrb hc wmj (Nat.le_of_ble_eq_true rfl) (Nat.le_of_ble_eq_true rfl) ?_
  unfold wji
  (repeat' (first | (simp -implicitDefEqProofs (maxSteps := 2000000) (disch := first | with_reducible assumption | omega | (simp only [zS, zA, seval, zD] <;> omega) | fail) only [zS, argl, insA, Go.Den.wh, wo, ww, looks, wbb, wab, idOf, riA, seval, Go.Den.wm, kK, *, zT]) | (with_reducible (first | apply z1 | apply z2 | apply z3 | apply z4) <;> intro hq <;> (try simp only [zH] at hq) <;> (try (exfalso; omega)))))
theorem ej61 : (EJ 61 G1).get 2 = JK := rfl
theorem wlec (l : List Int) (hl : l.length ≤ 12) (hs : ∀ i, i + 1 < l.length → l.getD i 0 < l.getD (i + 1) 0) : ∀ (k i : Nat), i + k = l.length → 0 < i →
    lim Try.prog cfg (.loop 77 0 (wte 0) (SE (EJ 61 G1) [(3, .int .i64 i), (0, FL l.length (ints l))])) (HP []) = some (.code (.exit 0) (SE (EJ 61 G1) [(2, JK), (0, FL l.length (ints l))]), HP []) := by
  intro k
  induction k with
  | zero =>
    intro i hi h0
    clear hs
    refine wfb wsh ?_
    unfold wpg
    (repeat' (first | (simp -implicitDefEqProofs (maxSteps := 2000000) (disch := first | with_reducible assumption | omega | (simp only [zS, zA, seval, wjb, wxb, wcd, zD] <;> omega) | fail) only [zS, argl, insA, Go.Den.wh, wo, ww, looks, wbb, wab, idOf, riA, seval, Go.Den.wm, kK, wqg, wsb, wsc, wjb, wxb, wcd, ej61, *, zT]) | (with_reducible (first | apply z1 | apply z2 | apply z3 | apply z4) <;> intro hq <;> (try simp only [zH] at hq) <;> (try (exfalso; omega))) | (with_reducible apply z5; (case hl => (repeat (first | exact .nil | with_reducible apply z6 | with_reducible apply z7))); (case h => kernel_rfl))))
  | succ k ih =>
    intro i hi h0
    have h := ih (i + 1) (by omega) (by omega)
    have h1 := hs (i - 1) (by omega)
    rw [show i - 1 + 1 = i by omega] at h1
    have g1 := wzo (l := l) (i := i) (by omega)
    have g0 := wzo (l := l) (i := i - 1) (by omega)
    have e1 : ((i : Int) - 1).toNat = i - 1 := by omega
    clear ih hs
    generalize l.getD i 0 = x at *
    generalize l.getD (i - 1) 0 = y at *
    refine wfb wsh ?_
    unfold wpg
    (repeat' (first | (simp -implicitDefEqProofs (maxSteps := 2000000) (disch := first | with_reducible assumption | omega | (simp only [zS, zA, seval, wjb, wxb, wcd, zD] <;> omega) | fail) only [zS, argl, insA, Go.Den.wh, wo, ww, looks, wbb, wab, idOf, riA, seval, Go.Den.wm, kK, wqg, wsb, wsc, wjb, Nat.mul_one, wxb, wcd, ej61, *, zT]) | (with_reducible (first | apply z1 | apply z2 | apply z3 | apply z4) <;> intro hq <;> (try simp only [zH] at hq) <;> (try (exfalso; omega))) | (with_reducible apply z5; (case hl => (repeat (first | exact .nil | with_reducible apply z6 | with_reducible apply z7))); (case h => kernel_rfl))))
    all_goals exact h
theorem wsbb (l : List Int) (hl : l.length ≤ 12) (hs : ∀ i, i + 1 < l.length → l.getD i 0 < l.getD (i + 1) 0) : lim Try.prog cfg (.call 77 [FL l.length (ints l)]) (HP []) = some (.val (FL l.length (ints l)), HP []) := by
  by_cases h2 : l.length < 2
  · clear hs
    refine wrb hc wpi (Nat.le_of_ble_eq_true rfl) (Nat.le_of_ble_eq_true rfl) ?_
    unfold wgh
    (repeat' (first | (simp -implicitDefEqProofs (maxSteps := 2000000) (disch := first | with_reducible assumption | omega | (simp only [zS, zA, seval, wjb, zD] <;> omega) | fail) only [zS, argl, insA, Go.Den.wh, wo, ww, looks, wbb, wab, idOf, riA, seval, Go.Den.wm, kK, wsb, wsc, wjb, *, zT]) | (with_reducible (first | apply z1 | apply z2 | apply z3 | apply z4) <;> intro hq <;> (try simp only [zH] at hq) <;> (try (exfalso; omega)))))
  · have h := wlec l hl hs (l.length - 1) 1 (by omega) (by omega)
    rw [show ((1 : Nat) : Int) = 1 from rfl] at h
    clear hs
    refine wrb hc wpi (Nat.le_of_ble_eq_true rfl) (Nat.le_of_ble_eq_true rfl) ?_
    unfold wgh
    (repeat' (first | (simp -implicitDefEqProofs (maxSteps := 2000000) (disch := first | with_reducible assumption | omega | (simp only [zS, zA, seval, wjb, wxb, wcd, zD] <;> omega) | fail) only [zS, argl, insA, Go.Den.wh, wo, ww, looks, wbb, wab, idOf, riA, seval, Go.Den.wm, kK, wqg, wsb, wsc, wjb, wxb, wcd, ej61, *, zT]) | (with_reducible (first | apply z1 | apply z2 | apply z3 | apply z4) <;> intro hq <;> (try simp only [zH] at hq) <;> (try (exfalso; omega)))))
theorem wlib {l : List Int} {x : Int} : ints (l ++ [x]) = ints l ++ [.int .i64 x] := by rw [ints, List.map_append]; rfl
def atL (xs : List St) : List Int := xs.map (·.1)
theorem wmec {xs : List St} : (atL xs).length = xs.length := List.length_map ..
theorem wyob {xs : List St} {j : Nat} (h : j < xs.length) : atL (xs.drop j) = (xs.getD j St.zero).1 :: atL (xs.drop (j + 1)) := by
  unfold atL
  rw [List.drop_eq_getElem_cons h, List.map_cons, List.getD_eq_getElem?_getD, List.getElem?_eq_getElem h]; rfl
theorem rY1 {N : Nat} : refs (.slice (some ⟨0, 0, some 1⟩) (N + 1) 0) = [(0, 1)] ∧ ∀ m, renV m (.slice (some ⟨0, 0, some 1⟩) (N + 1) 0) = .slice (some ⟨(m 0 1).1, 0, some (m 0 1).2⟩) (N + 1) 0 := ⟨wvc (by omega), fun _ => wvd (by omega)⟩
theorem ends_C (xs : List St) (h12 : xs.length ≤ 12) : ∀ (k j : Nat) (l : List Int), j + k = xs.length → 0 < l.length → l.length ≤ 12 →
    lim Try.prog cfg (.loop 37 0 (wwk 0) (SE (EJ 32 G1) [(18, .int .i64 j), (17, .int .i64 xs.length), (16, FL xs.length (stsC xs)), (9, slV l.length)])) (HP (yB l)) = some (.code (.exit 0) (SE (EJ 32 G1) [(9, slV (l ++ atL (xs.drop j)).length)]), HP (yB (l ++ atL (xs.drop j)))) ∨ 12 < l.length + k := by
  intro k
  induction k with
  | zero =>
    intro j l hj h0 hl
    left
    rw [List.drop_of_length_le (by omega), show atL [] = [] from rfl, List.append_nil]
    obtain ⟨rr, rn⟩ := rY h0
    refine wfb wsj ?_
    unfold wkk
    (repeat' (first | (simp -implicitDefEqProofs (maxSteps := 2000000) (disch := first | with_reducible assumption | omega | (simp only [zS, zA, seval, rr, rn, wxv, wjb, zD, wld, wvh, wql, wmd, wrl, wtf, wsl, wne, wuf, woe, wvf, wnd, wyk, wpe, wlk, wpc, wtl, wob, wpb, wfe, wge, wfc, wgc, whe, wkf, wlf, wme, whc, wyb, wed, wic, wfd, wjc, wuh, wie, wje, wmf, wnf, wgd, wkc, wof, wke, wle, wlc, wzb, wpf, wqf, wmc, whd, wrf, wjd, wnc, wvc, wvd, woc, wsf, wkd, Bool.false_and] <;> omega) | fail) only [zS, argl, insA, Go.Den.wh, wo, ww, looks, wbb, wab, idOf, riA, seval, Go.Den.wm, kK, wyi, rr, rn, wjb, *, zT, wld, wvh, wql, wmd, wrl, wtf, wsl, wne, wuf, woe, wvf, wnd, wyk, wpe, wlk, wpc, wtl, wob, wpb, wfe, wge, wfc, wgc, whe, wkf, wlf, wme, whc, wyb, wed, wic, wfd, wjc, wuh, wie, wje, wmf, wnf, wgd, wkc, wof, wke, wle, wlc, wzb, wpf, wqf, wmc, whd, wrf, wjd, wnc, wvc, wvd, woc, wsf, wkd, Bool.false_and]) | (with_reducible (first | apply z1 | apply z2 | apply z3 | apply z4) <;> intro hq <;> (try simp only [zH] at hq) <;> (try (exfalso; omega)))))
  | succ k ih =>
    intro j l hj h0 hl
    by_cases hq : 12 < l.length + (k + 1)
    · exact .inr hq
    left
    have hlt : j < xs.length := by omega
    rcases ih (j + 1) (l ++ [(xs.getD j St.zero).1]) (by omega) (by simp) (by rw [List.length_append, List.length_singleton]; omega) with h | h
    · rw [List.append_assoc, List.singleton_append, ← wyob hlt] at h
      unfold yB at h ⊢
      rw [wlib, List.length_append, List.length_singleton] at h
      have hsl := wkr (l := xs) (i := j) hlt
      generalize l ++ atL (xs.drop j) = R at h ⊢
      generalize xs.getD j St.zero = x at *
      clear ih
      obtain ⟨rr, rn⟩ := rY h0
      obtain ⟨r1, n1⟩ := rY1 (N := l.length)
      refine wfb wsj ?_
      unfold wkk
      (repeat' (first | (simp -implicitDefEqProofs (maxSteps := 2000000) (disch := first | with_reducible assumption | omega | (simp only [zS, zA, seval, rr, rn, r1, n1, wxv, wjb, wyj, Nat.mul_one, zD, wld, wvh, wql, wmd, wrl, wtf, wsl, wne, wuf, woe, wvf, wnd, wyk, wpe, wlk, wpc, wtl, wob, wpb, wfe, wge, wfc, wgc, whe, wkf, wlf, wme, whc, wyb, wed, wic, wfd, wjc, wuh, wie, wje, wmf, wnf, wgd, wkc, wof, wke, wle, wlc, wzb, wpf, wqf, wmc, whd, wrf, wjd, wnc, wvc, wvd, woc, wsf, wkd, Bool.false_and] <;> omega) | fail) only [zS, argl, insA, Go.Den.wh, wo, ww, looks, wbb, wab, idOf, riA, seval, Go.Den.wm, kK, wyi, rr, rn, r1, n1, wjb, wyj, Nat.mul_one, List.length_append, List.length_cons, List.length_nil, *, zT, wld, wvh, wql, wmd, wrl, wtf, wsl, wne, wuf, woe, wvf, wnd, wyk, wpe, wlk, wpc, wtl, wob, wpb, wfe, wge, wfc, wgc, whe, wkf, wlf, wme, whc, wyb, wed, wic, wfd, wjc, wuh, wie, wje, wmf, wnf, wgd, wkc, wof, wke, wle, wlc, wzb, wpf, wqf, wmc, whd, wrf, wjd, wnc, wvc, wvd, woc, wsf, wkd, Bool.false_and]) | (with_reducible (first | apply z1 | apply z2 | apply z3 | apply z4) <;> intro hq <;> (try simp only [zH] at hq) <;> (try (exfalso; omega)))))
      all_goals exact h
    · rw [List.length_append, List.length_singleton] at h; omega
theorem ends_N (xs : List St) (h12 : xs.length ≤ 12) (h0 : 0 < xs.length) :
    lim Try.prog cfg (.loop 37 0 (wwk 0) (SE (EJ 32 G1) [(18, .int .i64 0), (17, .int .i64 xs.length), (16, FL xs.length (stsC xs)), (9, .slice none 0 0)])) (HP []) = some (.code (.exit 0) (SE (EJ 32 G1) [(9, slV (atL xs).length)]), HP (yB (atL xs))) := by
  rcases ends_C xs h12 (xs.length - 1) 1 [(xs.getD 0 St.zero).1] (by omega) (by simp) (by simp) with h | h
  · have hd := wyob h0
    rw [List.drop_zero] at hd
    rw [List.singleton_append, ← hd] at h
    unfold yB at h ⊢
    rw [show ints [(xs.getD 0 St.zero).1] = [.int .i64 (xs.getD 0 St.zero).1] from rfl, List.length_singleton, show ((1 : Nat) : Int) = 1 from rfl] at h
    have hsl := wkr (l := xs) (i := 0) h0
    rw [Nat.zero_mul] at hsl
    generalize xs.getD 0 St.zero = x at *
    generalize atL xs = R at *
    clear hd
    obtain ⟨rr, rn⟩ := rY (N := 1) (by omega)
    refine wfb wsj ?_
    unfold wkk
    (repeat' (first | (simp -implicitDefEqProofs (maxSteps := 2000000) (disch := first | with_reducible assumption | omega | (simp only [zS, zA, seval, rr, rn, wxv, wjb, wyj, Nat.mul_one, zD, wld, wvh, wql, wmd, wrl, wtf, wsl, wne, wuf, woe, wvf, wnd, wyk, wpe, wlk, wpc, wtl, wob, wpb, wfe, wge, wfc, wgc, whe, wkf, wlf, wme, whc, wyb, wed, wic, wfd, wjc, wuh, wie, wje, wmf, wnf, wgd, wkc, wof, wke, wle, wlc, wzb, wpf, wqf, wmc, whd, wrf, wjd, wnc, wvc, wvd, woc, wsf, wkd, Bool.false_and] <;> omega) | fail) only [zS, argl, insA, Go.Den.wh, wo, ww, looks, wbb, wab, idOf, riA, seval, Go.Den.wm, kK, wyi, rr, rn, wjb, wyj, Nat.mul_one, List.length_append, List.length_cons, List.length_nil, *, zT, wld, wvh, wql, wmd, wrl, wtf, wsl, wne, wuf, woe, wvf, wnd, wyk, wpe, wlk, wpc, wtl, wob, wpb, wfe, wge, wfc, wgc, whe, wkf, wlf, wme, whc, wyb, wed, wic, wfd, wjc, wuh, wie, wje, wmf, wnf, wgd, wkc, wof, wke, wle, wlc, wzb, wpf, wqf, wmc, whd, wrf, wjd, wnc, wvc, wvd, woc, wsf, wkd, Bool.false_and]) | (with_reducible (first | apply z1 | apply z2 | apply z3 | apply z4) <;> intro hq <;> (try simp only [zH] at hq) <;> (try (exfalso; omega)))))
    all_goals exact h
  · rw [List.length_singleton] at h; omega
theorem wcub {l : List Int} : slotsOf (ints l) 0 l.length = ints l := by
  unfold slotsOf
  rw [List.drop_zero, List.take_of_length_le (by rw [wjb]; exact Nat.le_refl _)]
set_option maxHeartbeats 4000000 in
theorem ev_Ends (r : Rx) (hn : wcf r ≤ 1000000) (s : List UInt8) (hs : s.length ≤ 12) (bol : Bool) (a : Int) (h12 : (wth r s bol a).length ≤ 12)
    (hup : ∀ i, i + 1 < (wpp (atL (wth r s bol a))).length → (wpp (atL (wth r s bol a))).getD i 0 < (wpp (atL (wth r s bol a))).getD (i + 1) 0) :
    lim Try.prog cfg (.call 37 [.agg ⟨rxC r⟩, str s, .bool bol, .int .i64 a]) (HP []) = some (.val (FL (wpp (atL (wth r s bol a))).length (ints (wpp (atL (wth r s bol a))))), HP []) := by
  have hw := wqmb r hn s hs bol a
  generalize wth r s bol a = xs at *
  by_cases h0 : xs = []
  · subst h0
    have e1 := ev_Sort0
    have e2 := wsbb [] (by simp) (fun i hi => by simp at hi)
    rw [show ([] : List Int).length = 0 from rfl, show ints [] = [] from rfl] at e2
    have e3 : lim Try.prog cfg (.loop 37 0 (wwk 0) (SE (EJ 32 G1) [(18, .int .i64 0), (17, .int .i64 0), (16, FL 0 []), (9, .slice none 0 0)])) (HP []) = some (.code (.exit 0) (SE (EJ 32 G1) [(9, .slice none 0 0)]), HP []) := by
      refine wfb wsj ?_
      unfold wkk
      (repeat' (first | (simp -implicitDefEqProofs (maxSteps := 2000000) (disch := first | with_reducible assumption | omega | (simp only [zS, zA, seval, zD] <;> omega) | fail) only [zS, argl, insA, Go.Den.wh, wo, ww, looks, wbb, wab, idOf, riA, seval, Go.Den.wm, kK, wyi, *, zT]) | (with_reducible (first | apply z1 | apply z2 | apply z3 | apply z4) <;> intro hq <;> (try simp only [zH] at hq) <;> (try (exfalso; omega)))))
    rw [show ([] : List St).length = 0 from rfl, show stsC [] = [] from rfl] at hw
    clear hup
    rw [show wpp (atL []) = [] from rfl, show ([] : List Int).length = 0 from rfl, show ints [] = [] from rfl]
    refine wrb hc wbs (Nat.le_of_ble_eq_true rfl) (Nat.le_of_ble_eq_true rfl) ?_
    unfold wus
    (repeat' (first | (simp -implicitDefEqProofs (maxSteps := 2000000) (disch := first | with_reducible assumption | omega | (simp only [zS, zA, seval, wgw, zD] <;> omega) | fail) only [zS, argl, insA, Go.Den.wh, wo, ww, looks, wbb, wab, idOf, riA, seval, Go.Den.wm, kK, wyi, *, zT]) | (with_reducible (first | apply z1 | apply z2 | apply z3 | apply z4) <;> intro hq <;> (try simp only [zH] at hq) <;> (try (exfalso; omega)))))
  · have hp : 0 < xs.length := List.length_pos_iff.2 h0
    have e1 := ends_N xs h12 hp
    have hal : (atL xs).length = xs.length := wmec
    have e2 := ev_Sort (atL xs) (by omega) (by omega)
    have hsl := wmu (atL xs)
    have e3 := wsbb (wpp (atL xs)) (by omega) hup
    clear hup h0
    generalize wpp (atL xs) = m at *
    generalize atL xs = q at *
    have hpq : 0 < q.length := by omega
    have hmw := wcub (l := m)
    unfold yB at e1 e2
    rw [hsl] at e2 e3 hmw ⊢
    have hsly : slY 0 q.length (some (Y (ints m) 3 1 [q.length] 0)) = some (FL q.length (ints m), [(0, q.length)]) := by
      have := wlk (i := 0) (n := q.length) (cs := ints m) (elem := 3) (esz := 1) (a := q.length) (z := 0) (by omega) (by omega) (by rw [Nat.mul_one, hmw]; exact wyj)
      rw [Nat.mul_one, hmw] at this
      exact this
    clear hal
    obtain ⟨rr, rn⟩ := rY hpq
    refine wrb hc wbs (Nat.le_of_ble_eq_true rfl) (Nat.le_of_ble_eq_true rfl) ?_
    unfold wus
    (repeat' (first | (simp -implicitDefEqProofs (maxSteps := 2000000) (disch := first | with_reducible assumption | omega | (simp only [zS, zA, seval, rr, rn, hsly, wxv, wgw, wjb, wyj, Nat.mul_one, zD, wld, wvh, wql, wmd, wrl, wtf, wsl, wne, wuf, woe, wvf, wnd, wyk, wpe, wlk, wpc, wtl, wob, wpb, wfe, wge, wfc, wgc, whe, wkf, wlf, wme, whc, wyb, wed, wic, wfd, wjc, wuh, wie, wje, wmf, wnf, wgd, wkc, wof, wke, wle, wlc, wzb, wpf, wqf, wmc, whd, wrf, wjd, wnc, wvc, wvd, woc, wsf, wkd, Bool.false_and] <;> omega) | fail) only [zS, argl, insA, Go.Den.wh, wo, ww, looks, wbb, wab, idOf, riA, seval, Go.Den.wm, kK, wyi, rr, rn, wjb, wyj, Nat.mul_one, Nat.zero_le, Nat.max_self, *, zT, wld, wvh, wql, wmd, wrl, wtf, wsl, wne, wuf, woe, wvf, wnd, wyk, wpe, wlk, wpc, wtl, wob, wpb, wfe, wge, wfc, wgc, whe, wkf, wlf, wme, whc, wyb, wed, wic, wfd, wjc, wuh, wie, wje, wmf, wnf, wgd, wkc, wof, wke, wle, wlc, wzb, wpf, wqf, wmc, whd, wrf, wjd, wnc, wvc, wvd, woc, wsf, wkd, Bool.false_and]) | (with_reducible (first | apply z1 | apply z2 | apply z3 | apply z4) <;> intro hq <;> (try simp only [zH] at hq) <;> (try (exfalso; omega)))))
theorem up_of {l : List Int} (h : l.Pairwise (· < ·)) : ∀ i, i + 1 < l.length → l.getD i 0 < l.getD (i + 1) 0 := by
  intro i hi
  rw [List.getD_eq_getElem?_getD, List.getD_eq_getElem?_getD, List.getElem?_eq_getElem hi, List.getElem?_eq_getElem (show i < l.length by omega)]
  exact List.pairwise_iff_getElem.1 h i (i + 1) (by omega) hi (by omega)
theorem ev_EndsD (r : Rx) (hn : wcf r ≤ 1000000) (s : List UInt8) (hs : s.length ≤ 12) (bol : Bool) (a : Int) (h12 : (wth r s bol a).length ≤ 12) (hd : (atL (wth r s bol a)).Pairwise (· > ·)) :
    lim Try.prog cfg (.call 37 [.agg ⟨rxC r⟩, str s, .bool bol, .int .i64 a]) (HP []) = some (.val (FL (atL (wth r s bol a)).length (ints (atL (wth r s bol a)).reverse)), HP []) := by
  have h := ev_Ends r hn s hs bol a h12 (by rw [wrbb hd]; exact up_of (List.pairwise_reverse.2 hd))
  rw [wrbb hd, List.length_reverse] at h
  exact h
end
end Go.Proofs.Ytgpabbbibmnnlaa
namespace Go.Proofs.Ytgpabbbibmnnlaa
open Go.Den
noncomputable section
end
end Go.Proofs.Ytgpabbbibmnnlaa
namespace Go.Den
noncomputable section
end
end Go.Den
namespace Go.Proofs.Ytgpabbbibmnnlaa
set_option linter.unusedVariables false
set_option linter.unusedSimpArgs false
open Go.Den
noncomputable section
theorem st_get {l : List St} {i : Nat} (h : i < l.length) : l.getD i St.zero = l[i] := by
  rw [List.getD_eq_getElem?_getD, List.getElem?_eq_getElem h]; rfl
theorem wnec (n hi : Int) (h0 : 0 ≤ hi) : 0 ≤ wxk n 0 hi ∧ wxk n 0 hi ≤ hi := by
  unfold wxk
  have h1 := Int.emod_nonneg n (show hi - 0 + 1 ≠ 0 by omega)
  have h2 := Int.emod_lt_of_pos n (show 0 < hi - 0 + 1 by omega)
  rw [Int.tmod_eq_emod]
  repeat' split
  all_goals omega
end
end Go.Proofs.Ytgpabbbibmnnlaa
namespace Go.Proofs.Ytgpabbbibmnnlaa
set_option linter.unusedVariables false
set_option linter.unusedSimpArgs false
open Go.Den
noncomputable section
def wbF (s : List UInt8) (i : Nat) : Nat → Nat → List Int
  | 0, _ => []
  | k + 1, n => if i + 2 * n ≤ s.length then (if wsm s i (i + n) = true then ((i + 2 * n : Nat) : Int) :: wbF s i k (n + 1) else wbF s i k (n + 1)) else []
theorem woec {s : List UInt8} {i n : Nat} (hi : i ≤ s.length) (h : s.length < i + 2 * n) : wsm s i (i + n) = false := by
  unfold wsm
  rw [decide_eq_false (by omega)]; rfl
theorem wpec (s : List UInt8) (i : Nat) (hi : i ≤ s.length) : ∀ (k n : Nat), s.length + 1 ≤ n + k → wbF s i k n = ((List.range' n (s.length - i + 1 - n)).filter (fun n => wsm s i (i + n))).map (fun n => ((i + 2 * n : Nat) : Int)) := by
  intro k
  induction k with
  | zero => intro n h; rw [wbF, show s.length - i + 1 - n = 0 by omega]; rfl
  | succ k ih =>
    intro n h
    rw [wbF]
    by_cases hq : i + 2 * n ≤ s.length
    · rw [if_pos hq, ih (n + 1) (by omega), show s.length - i + 1 - n = (s.length - i + 1 - (n + 1)) + 1 by omega, List.range'_succ, List.filter_cons]
      by_cases ha : wsm s i (i + n) = true
      · rw [if_pos ha, if_pos ha]; rfl
      · rw [if_neg ha, if_neg ha]
    · rw [if_neg hq]
      symm
      rw [List.map_eq_nil_iff, List.filter_eq_nil_iff]
      intro m hm
      have := List.mem_range'_1.1 hm
      rw [woec hi (by omega)]; simp
theorem wqec (s : List UInt8) (hs : s.length < 100) (i : Nat) (hi : i ≤ s.length) : (atL (wth wzn s true i)).reverse = wbF s i (s.length + 1) 0 := by
  rw [wpec s i hi (s.length + 1) 0 (by omega), wwob s hs i hi]
  unfold atL wku
  rw [List.map_map, ← List.map_reverse, ← List.filter_reverse, List.reverse_reverse, List.filter_map, List.map_map, Nat.sub_zero]
  apply List.map_congr_left
  intro n _
  show ((i + n : Nat) : Int) + ((i + n - i : Nat) : Int) = _
  omega
theorem wdub (i len : Nat) : (wku i len).Pairwise (· > ·) := by
  unfold wku
  rw [List.pairwise_reverse, List.pairwise_map]
  exact List.Pairwise.imp (fun h => by omega) (List.pairwise_lt_range' (s := 0) (n := len - i + 1))
theorem wrec (s : List UInt8) (hs : s.length < 100) (i : Nat) (hi : i ≤ s.length) : (atL (wth wzn s true i)).Pairwise (· > ·) := by
  rw [wwob s hs i hi]
  unfold atL
  rw [List.map_map, List.pairwise_map]
  refine List.Pairwise.imp ?_ (List.Pairwise.sublist List.filter_sublist (wdub i s.length))
  intro a b h
  show (b : Int) + (b - i : Nat) < (a : Int) + (a - i : Nat)
  omega
theorem two_len (s : List UInt8) (hs : s.length < 100) (i : Nat) (hi : i ≤ s.length) : (wth wzn s true i).length ≤ s.length + 1 := by
  rw [wwob s hs i hi, List.length_map]
  refine Nat.le_trans (List.length_filter_le _ _) ?_
  unfold wku
  rw [List.length_reverse, List.length_map, List.length_range']; omega
theorem two_is (s : List UInt8) (hs : s.length < 100) (i : Nat) (hi : i ≤ s.length) : ∀ x ∈ wth wzn s true i, x.2.at 2 = i ∧ 0 ≤ x.2.at 3 ∧ x.2.at 3 ≤ s.length ∧ x.1 = (i : Int) + 2 * (x.2.at 3 - i) := by
  intro x hx
  rw [wwob s hs i hi] at hx
  obtain ⟨b, hb, rfl⟩ := List.mem_map.1 hx
  have hb2 := (List.mem_filter.1 hb).1
  unfold wku at hb2
  rw [List.mem_reverse] at hb2
  obtain ⟨n, hn, rfl⟩ := List.mem_map.1 hb2
  have := List.mem_range'_1.1 hn
  show (twoM i (i + n : Nat)).at 2 = i ∧ 0 ≤ (twoM i (i + n : Nat)).at 3 ∧ _ ∧ ((i + n : Nat) : Int) + ((i + n - i : Nat) : Int) = (i : Int) + 2 * ((twoM i (i + n : Nat)).at 3 - i)
  rw [two2, two3]
  omega
abbrev wbR (r : Rx) : ABlk := X (rxC r) 47 0 false
abbrev wbT (l : List Int) : Value := FO 1 l.length (ints l)
abbrev wbK (l : List Int) : ABlk := .tok l.length 3 1
theorem wjz {s : List UInt8} {i n : Nat} (h : i + 2 * n ≤ s.length) : (wsm s i (i + n) = true) = ((s.take (i + n)).drop i = (s.take (i + 2 * n)).drop (i + n)) := by
  unfold wsm
  rw [decide_eq_true (show i + n - i ≤ s.length - (i + n) by omega), Bool.true_and, show i + n + (i + n - i) = i + 2 * n by omega]
  simp
set_option maxHeartbeats 4000000 in
theorem wb_C (r : Rx) (s : List UInt8) (hs : s.length ≤ 12) (i : Nat) (hi : i ≤ s.length) : ∀ (k n : Nat) (l : List Int), 0 < l.length → l.length ≤ n →
    s.length + 1 ≤ n + k → n ≤ 13 →
    lim Try.prog cfg (.loop 13 0 (wwc 0) (SE (EJ 117 G0) [(11, .int .i64 n), (10, wbT l), (9, .int .i64 i), (6, .pointer (some ⟨0, 0, none⟩)), (5, str s)])) (HP [wbR r, wbK l])
      = some (.code (.exit 0) (SE (EJ 117 G0) [(10, wbT (l ++ wbF s i k n)), (9, .int .i64 i), (6, .pointer (some ⟨0, 0, none⟩)), (5, str s)]), HP [wbR r, wbK (l ++ wbF s i k n)]) := by
  intro k
  induction k with
  | zero =>
    intro n l h0 hl hk hn
    rw [wbF, List.append_nil]
    refine wfb wue ?_
    unfold wqe
    (repeat' (first | (simp -implicitDefEqProofs (maxSteps := 2000000) (disch := first | with_reducible assumption | omega | (simp only [zS, zA, seval, wgw, zD] <;> omega) | fail) only [zS, argl, insA, Go.Den.wh, wo, ww, looks, wbb, wab, idOf, riA, seval, Go.Den.wm, kK, wre, wsb, wsc, *, zT]) | (with_reducible (first | apply z1 | apply z2 | apply z3 | apply z4) <;> intro hq <;> (try simp only [zH] at hq) <;> (try (exfalso; omega))) | (with_reducible apply z5; (case hl => (repeat (first | exact .nil | with_reducible apply z6 | with_reducible apply z7))); (case h => kernel_rfl))))
  | succ k ih =>
    intro n l h0 hl hk hn
    rw [wbF]
    by_cases hq : i + 2 * n ≤ s.length
    · rw [if_pos hq]
      have e1 : ((i : Int) + n).toNat = i + n := by omega
      have e2 : ((i : Int) + 2 * n).toNat = i + 2 * n := by omega
      have e3 : ((i + 2 * n : Nat) : Int) = (i : Int) + 2 * n := by omega
      have hA : ((s.take (i + n)).drop i).length ≤ 12 := by rw [List.length_drop, List.length_take]; omega
      by_cases ha : (s.take (i + n)).drop i = (s.take (i + 2 * n)).drop (i + n)
      · rw [if_pos (show wsm s i (i + n) = true by rw [wjz hq]; exact ha)]
        have h := ih (n + 1) (l ++ [((i + 2 * n : Nat) : Int)]) (by simp) (by rw [List.length_append, List.length_singleton]; omega) (by omega) (by omega)
        rw [List.append_assoc, List.singleton_append] at h
        generalize l ++ (((i + 2 * n : Nat) : Int) :: wbF s i k (n + 1)) = R at h ⊢
        unfold wbT wbK at h ⊢
        rw [wlib, List.length_append, List.length_singleton, e3] at h
        clear ih e3
        refine wfb wue ?_
        unfold wqe
        (repeat' (first | (simp -implicitDefEqProofs (maxSteps := 2000000) (disch := first | with_reducible assumption | omega | (simp only [zS, zA, seval, wgw, wjb, zD] <;> omega) | fail) only [zS, argl, insA, Go.Den.wh, wo, ww, looks, wbb, wab, idOf, riA, seval, Go.Den.wm, kK, wre, wsb, wsc, wjb, *, zT]) | (with_reducible (first | apply z1 | apply z2 | apply z3 | apply z4) <;> intro hq <;> (try simp only [zH] at hq) <;> (try (exfalso; omega))) | (with_reducible apply z5; (case hl => (repeat (first | exact .nil | with_reducible apply z6 | with_reducible apply z7))); (case h => kernel_rfl))))
        all_goals exact h
      · rw [if_neg (show ¬ wsm s i (i + n) = true by rw [wjz hq]; exact ha)]
        have h := ih (n + 1) l h0 (by omega) (by omega) (by omega)
        generalize l ++ wbF s i k (n + 1) = R at h ⊢
        clear ih
        refine wfb wue ?_
        unfold wqe
        (repeat' (first | (simp -implicitDefEqProofs (maxSteps := 2000000) (disch := first | with_reducible assumption | omega | (simp only [zS, zA, seval, wgw, wjb, zD] <;> omega) | fail) only [zS, argl, insA, Go.Den.wh, wo, ww, looks, wbb, wab, idOf, riA, seval, Go.Den.wm, kK, wre, wsb, wsc, wjb, *, zT]) | (with_reducible (first | apply z1 | apply z2 | apply z3 | apply z4) <;> intro hq <;> (try simp only [zH] at hq) <;> (try (exfalso; omega))) | (with_reducible apply z5; (case hl => (repeat (first | exact .nil | with_reducible apply z6 | with_reducible apply z7))); (case h => kernel_rfl))))
        all_goals exact h
    · rw [if_neg hq, List.append_nil]
      have hq2 : ¬ (i : Int) + 2 * n ≤ s.length := by omega
      clear ih hq
      refine wfb wue ?_
      unfold wqe
      (repeat' (first | (simp -implicitDefEqProofs (maxSteps := 2000000) (disch := first | with_reducible assumption | omega | (simp only [zS, zA, seval, wgw, zD] <;> omega) | fail) only [zS, argl, insA, Go.Den.wh, wo, ww, looks, wbb, wab, idOf, riA, seval, Go.Den.wm, kK, wre, wsb, wsc, *, zT]) | (with_reducible (first | apply z1 | apply z2 | apply z3 | apply z4) <;> intro hq <;> (try simp only [zH] at hq) <;> (try (exfalso; omega))) | (with_reducible apply z5; (case hl => (repeat (first | exact .nil | with_reducible apply z6 | with_reducible apply z7))); (case h => kernel_rfl))))
theorem wsec (s : List UInt8) (i : Nat) (hi : i ≤ s.length) (k : Nat) : wbF s i (k + 1) 0 = (i : Int) :: wbF s i k 1 := by
  rw [wbF, if_pos (by omega), if_pos (show wsm s i (i + 0) = true by rw [wjz (by omega)]; simp)]
  rfl
set_option maxHeartbeats 4000000 in
theorem wb_N (r : Rx) (s : List UInt8) (hs : s.length ≤ 12) (i : Nat) (hi : i ≤ s.length) :
    lim Try.prog cfg (.loop 13 0 (wwc 0) (SE (EJ 117 G0) [(11, .int .i64 0), (10, .slice none 0 0), (9, .int .i64 i), (6, .pointer (some ⟨0, 0, none⟩)), (5, str s)])) (HP [wbR r])
      = some (.code (.exit 0) (SE (EJ 117 G0) [(10, wbT (wbF s i (s.length + 1) 0)), (9, .int .i64 i), (6, .pointer (some ⟨0, 0, none⟩)), (5, str s)]), HP [wbR r, wbK (wbF s i (s.length + 1) 0)]) := by
  have h := wb_C r s hs i hi s.length 1 [(i : Int)] (by simp) (by simp) (by omega) (by omega)
  rw [List.singleton_append, ← wsec s i hi] at h
  generalize wbF s i (s.length + 1) 0 = R at h ⊢
  unfold wbT wbK at h ⊢
  rw [show ints [(i : Int)] = [.int .i64 i] from rfl, List.length_singleton, show ((1 : Nat) : Int) = 1 from rfl] at h
  have e1 : ((i : Int) + 0).toNat = i := by omega
  have e2 : (s.take i).drop i = [] := List.drop_of_length_le (by rw [List.length_take]; omega)
  refine wfb wue ?_
  unfold wqe
  (repeat' (first | (simp -implicitDefEqProofs (maxSteps := 2000000) (disch := first | with_reducible assumption | omega | (simp only [zS, zA, seval, wgw, wjb, zD] <;> omega) | fail) only [zS, argl, insA, Go.Den.wh, wo, ww, looks, wbb, wab, idOf, riA, seval, Go.Den.wm, kK, wre, wsb, wsc, wjb, Int.mul_zero, Int.add_zero, *, zT]) | (with_reducible (first | apply z1 | apply z2 | apply z3 | apply z4) <;> intro hq <;> (try simp only [zH] at hq) <;> (try (exfalso; omega))) | (with_reducible apply z5; (case hl => (repeat (first | exact .nil | with_reducible apply z6 | with_reducible apply z7))); (case h => kernel_rfl))))
  all_goals exact h
theorem ej117 : (EJ 117 G0).get 4 = JK := rfl
set_option maxHeartbeats 4000000 in
theorem wb_ways (r : Rx) (s : List UInt8) (hs : s.length ≤ 12) (i : Nat) (hi : i ≤ s.length) (R : List Int) (xs : List St) (hl : xs.length ≤ 100) (hx : ∀ x ∈ xs, x.2.at 2 = i ∧ 0 ≤ x.2.at 3 ∧ x.2.at 3 ≤ s.length ∧ x.1 = (i : Int) + 2 * (x.2.at 3 - i)) : ∀ (k j : Nat), j + k = xs.length →
    lim Try.prog cfg (.loop 13 0 (wwc 1) (SE (EJ 117 G0) [(68, .int .i64 j), (67, .int .i64 xs.length), (66, FL xs.length (stsC xs)), (10, wbT R), (9, .int .i64 i), (6, .pointer (some ⟨0, 0, none⟩)), (5, str s)])) (HP [wbR r, wbK R])
      = some (.code (.exit 2) (SE (EJ 117 G0) [(10, wbT R), (9, .int .i64 i), (6, .pointer (some ⟨0, 0, none⟩)), (5, str s), (4, JK)]), HP [wbR r, wbK R]) := by
  intro k
  induction k with
  | zero =>
    intro j hj
    clear hx
    refine wfb wnj ?_
    unfold wki
    (repeat' (first | (simp -implicitDefEqProofs (maxSteps := 2000000) (disch := first | with_reducible assumption | omega | (simp only [zS, zA, seval, wgw, wxv, wxb, wcd, zD] <;> omega) | fail) only [zS, argl, insA, Go.Den.wh, wo, ww, looks, wbb, wab, idOf, riA, seval, Go.Den.wm, kK, wli, wsb, wsc, wxb, wcd, ej117, *, zT]) | (with_reducible (first | apply z1 | apply z2 | apply z3 | apply z4) <;> intro hq <;> (try simp only [zH] at hq) <;> (try (exfalso; omega)))))
  | succ k ih =>
    intro j hj
    have hlt : j < xs.length := by omega
    have h := ih (j + 1) (by omega)
    have hmem : xs.getD j St.zero ∈ xs := by rw [st_get hlt]; exact List.getElem_mem hlt
    obtain ⟨x1, x2, x3, x4⟩ := hx _ hmem
    have hsl := wkr (l := xs) (i := j) hlt
    have hs3 : slotsOf (stC (xs.getD j St.zero)) 3 2 = [.int .i64 ((xs.getD j St.zero).2.at 2), .int .i64 ((xs.getD j St.zero).2.at 3)] := by
      rw [show 3 = 1 + 2 from rfl, wxhb, wvhb (by omega)]
    have e0 : (xs.getD j St.zero).1 = (i : Int) + 2 * ((xs.getD j St.zero).2.at 3 - i) := x4
    generalize xs.getD j St.zero = x at *
    clear ih hx hmem x4
    refine wfb wnj ?_
    unfold wki
    (repeat' (first | (simp -implicitDefEqProofs (maxSteps := 2000000) (disch := first | with_reducible assumption | omega | (simp only [zS, zA, seval, wgw, wxv, wxb, wcd, zD] <;> omega) | fail) only [zS, argl, insA, Go.Den.wh, wo, ww, looks, wbb, wab, idOf, riA, seval, Go.Den.wm, kK, wli, wsb, wsc, wxb, wcd, ej117, *, zT]) | (with_reducible (first | apply z1 | apply z2 | apply z3 | apply z4) <;> intro hq <;> (try simp only [zH] at hq) <;> (try (exfalso; omega)))))
    all_goals exact h
theorem q_no : wth rxQ [98, 99] true 0 = [] := by kernel_rfl
theorem nodes_Q : wcf rxQ ≤ 1000000 := by simp only [rxQ, wfeb, wjmb, rxBk, rxAlt, setX, wcf, wae]; omega
set_option maxRecDepth 100000 in
set_option maxHeartbeats 8000000 in
theorem weub (text : List Int) (n : Int) : lim Try.prog cfg (.call 13 [FL text.length (ints text), .int .i64 n]) (HP []) = some (.val (.bool true), HP []) := by
  have h1 := ev_Text text 8 (by omega)
  have hs := wbec text 8
  generalize textF text 8 = s at *
  rw [show ((8 : Nat) : Int) = 8 from rfl] at h1
  have hw := waib n 0 s.length (by omega) (by omega) (by omega)
  have hwi := wnec n s.length (by omega)
  obtain ⟨i, hi⟩ : ∃ i : Nat, wxk n 0 s.length = i := ⟨_, (Int.toNat_of_nonneg hwi.1).symm⟩
  rw [hi] at hw hwi
  clear hi
  have hi : i ≤ s.length := by omega
  have w1 := wqmb wzn wkib s (by omega) true i
  have hl2 := two_len s (by omega) i hi
  have w2 := ev_EndsD wzn wkib s (by omega) true i (by omega) (wrec s (by omega) i hi)
  rw [wqec s (by omega) i hi] at w2
  have hll : (atL (wth wzn s true i)).length = (wbF s i (s.length + 1) 0).length := by rw [← wqec s (by omega) i hi, List.length_reverse]
  rw [hll] at w2
  have hRl : (wbF s i (s.length + 1) 0).length ≤ 100 := by rw [← hll, wmec]; omega
  have l0 := wb_N wzn s (by omega) i hi
  have l1 := wb_ways wzn s (by omega) i hi (wbF s i (s.length + 1) 0) (wth wzn s true i) (by omega) (two_is s (by omega) i hi) (wth wzn s true i).length 0 (by omega)
  have q1 := wqmb rxQ nodes_Q [98, 99] (by simp) true 0
  rw [q_no, show ([] : List St).length = 0 from rfl, show stsC [] = [] from rfl] at q1
  have sm := ev_SameI (wbF s i (s.length + 1) 0) (by omega)
  rw [show ((0 : Nat) : Int) = 0 from rfl] at l1
  generalize wbF s i (s.length + 1) 0 = R at *
  generalize wth wzn s true i = xs at *
  unfold wbT wbK at l0 l1
  clear hll hwi
  refine wrb hc wwo (Nat.le_of_ble_eq_true rfl) (Nat.le_of_ble_eq_true rfl) ?_
  unfold wzl
  (repeat' (first | (simp -implicitDefEqProofs (maxSteps := 2000000) (disch := first | with_reducible assumption | omega | (simp only [zS, zA, seval, wxv, wgw, wjb, wxb, wcd, zD] <;> omega) | fail) only [zS, argl, insA, Go.Den.wh, wo, ww, looks, wbb, wab, idOf, riA, seval, Go.Den.wm, kK, wre, wli, wsb, wsc, wjb, wxb, wcd, *, zT]) | (with_reducible (first | apply z1 | apply z2 | apply z3 | apply z4) <;> intro hq <;> (try simp only [zH] at hq) <;> (try (exfalso; omega)))))
end
end Go.Proofs.Ytgpabbbibmnnlaa
namespace Go.Den
noncomputable section
open Go.ChangeShapes Go.WideShapes Go.RowKit
variable {P : Program} {cfg : Cfg} {H : Type} {enc : TypeId × Value → H}
theorem known_ev (wwj : wij P cfg.glob cfg.know) (hm : P.follows .mixedOrders = true) {f : FuncId} {a : List Value} {v : Value} (h : Ev P cfg (.call f a) AH0 (.val v, AH0)) (ha : wkb a = true) (hv : wgf v = true) : whk P cfg.glob f a v := by
  obtain ⟨n, h⟩ := h
  exact whq wwj hm (h n (Nat.le_refl n)) ha hv
def renW (w : World) : Ren := ⟨fun _ _ => none, fun b i => w.cell? ⟨b, i, none⟩⟩
theorem wtec (wwj : wij P cfg.glob cfg.know) (hm : P.follows .mixedOrders = true) (hg : cfg.glob = fun _ => none) {f : FuncId} {a : List Value} (h : Ev P cfg (.call f a) AH0 (.val (.bool true), AH0)) (ha : wkb a = true) (w : World) (args' : Array Value) (hA : VRL (renW w) a args'.toList) :
    Calls P f args' w fun e w' => e = .returned (.bool true) ∧ w.heap.size ≤ w'.heap.size ∧ (∀ b : Nat, b < w.heap.size → w'.heap[b]? = w.heap[b]?) ∧ w'.os = w.os ∧ w'.output = w.output := by
  refine (known_ev wwj hm h ha rfl (renW w) w args' (fun _ _ _ h => h) (by rw [hg]; exact gok_none _) hA).mono ?_
  rintro e w' ⟨ρ', v', rfl, h1, _, _, _, _, h5, h2, h3, h4⟩
  rw [h1.bool_inv]
  exact ⟨rfl, h5, h2, h3, h4⟩
theorem same_at {W W' : World} (hb : ∀ b : Nat, b < W.heap.size → W'.heap[b]? = W.heap[b]?) {p : MemPlace} (hp : p.block < W.heap.size) : W.sameAt W' p := by
  cases p with
  | cell b o => exact World.cell?_of_block (w := W) (hb b hp)
  | map b => exact hb b hp
theorem wreb (hl : laidOutB P = true) {W W' : World} (hb : ∀ b : Nat, b < W.heap.size → W'.heap[b]? = W.heap[b]?) {sp : Nat → Bool} : ∀ (ts : List TypeId) (vs : List Value) (ds : List (DataW H)) (ps : List MemPlace), (ts.all fun t => P.readableRec t && decide (t < P.types.size)) = true →
    DataW.TrodAll enc P W 0 (fun _ => true) true ts vs ds ps → (∀ p ∈ ps, p.block < W.heap.size) → (∀ p ∈ ps, sp p.block = true) → DataW.TrodAll enc P W' 0 sp true ts vs ds ps := by
  intro ts
  induction ts with
  | nil =>
    intro vs ds ps _ h _ _
    obtain ⟨rfl, rfl, rfl⟩ := trodAll_nil h
    exact trodAll_mk0
  | cons t ts ih =>
    intro vs ds ps ht h hlt hs
    obtain ⟨v, vs', d, ds', p, q, rfl, rfl, rfl, h0, h1⟩ := trodAll_cons h
    simp only [List.all_cons, Bool.and_eq_true, decide_eq_true_eq] at ht
    exact trodAll_cons_mk (WideElems.Trod_stays hl ht.1.1 ht.1.2 h0 (fun x hx => same_at hb (hlt x (List.mem_append_left _ hx))) (fun x hx => hs x (List.mem_append_left _ hx)))
      (ih vs' ds' q (by simpa using ht.2) h1 (fun x hx => hlt x (List.mem_append_right _ hx)) (fun x hx => hs x (List.mem_append_right _ hx)))
theorem law_post (hl : laidOutB P = true) {f : Func} {s : ChangeSpec} {apart fresh handsOn : Bool} {W W' : World} {args : Array Value} {ds gs : List (DataW H)} {before : List MemPlace}
    (hW : DataW.Whole enc P f.params.toList s.vars apart W args.toList ds gs before) (hvars : s.vars = []) (hbool : ∃ t, f.resultTypes = #[t] ∧ P.underlying t = some .bool)
    (hts : (f.params.toList.all fun t => P.readableRec t && decide (t < P.types.size)) = true)
    (hfn : s.fn H (ds ++ gs) = { results := [.lit (.bool true)], args := ds })
    (hs : ∀ b : Nat, b < W.heap.size → W'.heap[b]? = W.heap[b]?) (ho : W'.os = W.os) (hp : W'.output = W.output) : s.post enc P f apart fresh handsOn false W args (.bool true) W' := by
  have hW' := hW
  obtain ⟨p, q, hA, hV, rfl, hfz, hnd⟩ := hW
  rw [hvars] at hV
  obtain ⟨rfl, rfl⟩ := trodVars_none hV
  obtain ⟨t, ht, hu⟩ := hbool
  refine wuwb (pa := p) (pv := []) hW' (fun b sp hd => ?_) (fun sp hsp => ?_) (fun sp _ => ?_) rfl (kept_of hs ho hp)
  · rw [ht, hfn]
    exact trodAll_cons_mk (shut_bool hu _) trodAll_mk0
  · rw [hfn]
    exact wreb hl hs _ _ _ _ hts hA (fun x hx => hW'.lt x (List.mem_append_left _ hx)) (fun x hx => hsp x (List.mem_append_left _ hx))
  · rw [hfn, hvars]
    exact rfl
end
end Go.Den
namespace Go.Den
noncomputable section
open Go.ChangeShapes Go.WideShapes Go.RowKit
variable {P : Program} {H : Type} {enc : TypeId × Value → H}
theorem row_VR {W : World} {t e : TypeId} {k : IntKind} (ht : P.underlying t = some (.slice e)) (he : P.underlying e = some (.int k)) (hc : P.cellsOf e = 1) {r : Reach} {b0 base fuel : Nat} {sp : Nat → Bool} {held : Bool} {v : Value} {x : DataW H × List MemPlace}
    (hval : Cell.okWide P W r b0 t v) (hf : DataW.trod enc P W base sp held fuel t [v] = some x) : ∃ l : List Int, VR (renW W) (FL l.length (l.map (Value.int k))) v := by
  rcases open_ints ht he hc hf with ⟨hcs, _⟩ | ⟨a, len, cap, zs, hcs, _, hl, hm, hz, _, hcell, _⟩
  · cases hcs
    exact ⟨[], .listNo⟩
  · cases hcs
    have hsp : a.spot = none := by
      simp only [Cell.okWide, ht, Cell.ok] at hval
      exact hval.2.2.2.1
    obtain ⟨blk, off, spot⟩ := a
    subst hsp
    have hlz : len ≤ zs.length := by rw [hz]; split <;> omega
    have hlen : (zs.take len).length = len := by rw [List.length_take]; omega
    refine ⟨zs.take len, ?_⟩
    rw [hlen]
    refine VR.list (a' := ⟨blk, off, none⟩) hl (fun i => .int k (zs.getD i 0)) (fun i hi => ?_) (fun i v hv => ?_)
    · rw [List.length_map, hlen] at hi
      have := hcell i (by omega)
      rw [show (⟨blk, off, none⟩ : Addr).add i = ⟨blk, off + i, none⟩ by unfold Addr.add; split <;> simp_all] at this
      exact this
    · rw [List.getElem?_map] at hv
      have hi : i < len := by
        have := (List.getElem?_eq_some_iff.1 (show ((zs.take len).map (Value.int k))[i]? = some v by rw [List.getElem?_map]; exact hv)).1
        rw [List.length_map, hlen] at this; exact this
      rw [List.getElem?_take, if_pos hi, List.getElem?_eq_getElem (by omega)] at hv
      cases hv
      rw [List.getD_eq_getElem?_getD, List.getElem?_eq_getElem (by omega)]
      exact .flat rfl
theorem wuec {W : World} {t e : TypeId} {k : IntKind} (ht : P.underlying t = some (.slice e)) (he : P.underlying e = some (.int k)) (hc : P.cellsOf e = 1) {r : Reach} {b0 base : Nat} {sp : Nat → Bool} {held : Bool} {v : Value} {d : DataW H} {ps : List MemPlace}
    (hval : Value.okWide P W r b0 t v) (hd : DataW.Trod enc P W base sp held t v d ps) : ∃ l : List Int, VR (renW W) (FL l.length (l.map (Value.int k))) v := by
  obtain ⟨a, len, cap, rfl⟩ := okWide_slice ht hval
  obtain ⟨fuel, hf⟩ := hd
  simp only [Value.okWide, ht] at hval
  exact row_VR ht he hc hval hf
end
end Go.Den
