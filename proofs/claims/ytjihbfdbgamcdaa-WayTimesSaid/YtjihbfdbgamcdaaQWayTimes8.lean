/-
  PARTS OF A PROOF, joined by a program (8 of 8): a proved reckoner of the model, and what the functions come to.
-/
import Derived.Test.YtjihbfdbgamcdaaQWayTimes7
import Derived.ChangeSame
import Derived.WideKeyArgs
import Derived.OpenShut
import Derived.WideKeyPair
import Derived.ChangeSlices
set_option linter.unusedVariables false
set_option linter.unusedSimpArgs false
namespace Go.Proofs.Ytjihbfdbgamcdaa
set_option linter.unusedVariables false
set_option linter.unusedSimpArgs false
open Go.Den
noncomputable section
theorem ev_ins0 : lim Try.prog cfg (.call 115 [.slice none 0 0, .int .i64 0, .int .i64 0]) (HP []) = some (.val (.tuple ⟨[]⟩), HP []) := by
  have h : lim Try.prog cfg (.loop 115 0 (wib 0) (SE (EJ 49 G1) [(6, .int .i64 1), (2, .int .i64 0), (1, .int .i64 0), (0, .slice none 0 0)])) (HP []) = some (.code (.exit 0) (SE (EJ 49 G1) []), HP []) := by
    refine wcb wge ?_
    unfold wed
    (repeat' (first | (simp -implicitDefEqProofs (maxSteps := 2000000) (disch := first | with_reducible assumption | omega | (simp only [zS, zA, seval, zD] <;> omega) | fail) only [zS, argl, insA, Go.Den.wh, wo, wu, looks, wbb, wab, idOf, riA, seval, Go.Den.wm, kK, wgc, *, zT]) | (with_reducible (first | apply z1 | apply z2 | apply z3 | apply z4) <;> intro hq <;> (try simp only [zH] at hq) <;> (try (exfalso; omega)))))
  refine wub hc wlg (Nat.le_of_ble_eq_true rfl) (Nat.le_of_ble_eq_true rfl) ?_
  unfold wdf
  (repeat' (first | (simp -implicitDefEqProofs (maxSteps := 2000000) (disch := first | with_reducible assumption | omega | (simp only [zS, zA, seval, zD] <;> omega) | fail) only [zS, argl, insA, Go.Den.wh, wo, wu, looks, wbb, wab, idOf, riA, seval, Go.Den.wm, kK, wgc, *, zT]) | (with_reducible (first | apply z1 | apply z2 | apply z3 | apply z4) <;> intro hq <;> (try simp only [zH] at hq) <;> (try (exfalso; omega)))))
theorem ev_pdq0 (k : Int) : lim Try.prog cfg (.call 99 [.slice none 0 0, .int .i64 0, .int .i64 0, .int .i64 k]) (HP []) = some (.val (.tuple ⟨[]⟩), HP []) := by
  have h := ev_ins0
  have hp : lim Try.prog cfg (.loop 99 0 (wbe 0) (SE (EJ 134 G1) [(9, .bool true), (8, .bool true), (3, .int .i64 k), (2, .int .i64 0), (1, .int .i64 0), (0, .slice none 0 0)])) (HP []) = some (.code .ret (SE (EJ 134 G1) []), HP []) := by
    refine wcb wnh ?_
    unfold wrf
    (repeat' (first | (simp -implicitDefEqProofs (maxSteps := 2000000) (disch := first | with_reducible assumption | omega | (simp only [zS, zA, seval, zD] <;> omega) | fail) only [zS, argl, insA, Go.Den.wh, wo, wu, looks, wbb, wab, idOf, riA, seval, Go.Den.wm, kK, wme, wmb, wyb, *, zT]) | (with_reducible (first | apply z1 | apply z2 | apply z3 | apply z4) <;> intro hq <;> (try simp only [zH] at hq) <;> (try (exfalso; omega))) | (with_reducible apply z5; (case hl => (repeat (first | exact .nil | with_reducible apply z6 | with_reducible apply z7))); (case h => kernel_rfl))))
  refine wub hc wzh (Nat.le_of_ble_eq_true rfl) (Nat.le_of_ble_eq_true rfl) ?_
  unfold wng
  (repeat' (first | (simp -implicitDefEqProofs (maxSteps := 2000000) (disch := first | with_reducible assumption | omega | (simp only [zS, zA, seval, zD] <;> omega) | fail) only [zS, argl, insA, Go.Den.wh, wo, wu, looks, wbb, wab, idOf, riA, seval, Go.Den.wm, kK, wme, wmb, wyb, *, zT]) | (with_reducible (first | apply z1 | apply z2 | apply z3 | apply z4) <;> intro hq <;> (try simp only [zH] at hq) <;> (try (exfalso; omega))) | (with_reducible apply z5; (case hl => (repeat (first | exact .nil | with_reducible apply z6 | with_reducible apply z7))); (case h => kernel_rfl))))
set_option maxRecDepth 100000 in
theorem ev_Len64 (n : Nat) (hn : n ≤ 12) : ∃ k : Int, lim Try.prog cfg (.call 125 [.int .u64 n]) (HP []) = some (.val (.int .i64 k), HP []) := by
  rcases (show n = 0 ∨ n = 1 ∨ n = 2 ∨ n = 3 ∨ n = 4 ∨ n = 5 ∨ n = 6 ∨ n = 7 ∨ n = 8 ∨ n = 9 ∨ n = 10 ∨ n = 11 ∨ n = 12 by omega) with rfl | rfl | rfl | rfl | rfl | rfl | rfl | rfl | rfl | rfl | rfl | rfl | rfl
  case' inl => refine ⟨0, ?_⟩
  case' inr.inl => refine ⟨1, ?_⟩
  case' inr.inr.inl => refine ⟨2, ?_⟩
  case' inr.inr.inr.inl => refine ⟨2, ?_⟩
  case' inr.inr.inr.inr.inl => refine ⟨3, ?_⟩
  case' inr.inr.inr.inr.inr.inl => refine ⟨3, ?_⟩
  case' inr.inr.inr.inr.inr.inr.inl => refine ⟨3, ?_⟩
  case' inr.inr.inr.inr.inr.inr.inr.inl => refine ⟨3, ?_⟩
  case' inr.inr.inr.inr.inr.inr.inr.inr.inl => refine ⟨4, ?_⟩
  case' inr.inr.inr.inr.inr.inr.inr.inr.inr.inl => refine ⟨4, ?_⟩
  case' inr.inr.inr.inr.inr.inr.inr.inr.inr.inr.inl => refine ⟨4, ?_⟩
  case' inr.inr.inr.inr.inr.inr.inr.inr.inr.inr.inr.inl => refine ⟨4, ?_⟩
  case' inr.inr.inr.inr.inr.inr.inr.inr.inr.inr.inr.inr => refine ⟨4, ?_⟩
  all_goals
    refine wub hc war (Nat.le_of_ble_eq_true rfl) (Nat.le_of_ble_eq_true rfl) ?_
    unfold wmn
    (repeat' (first | (simp -implicitDefEqProofs (maxSteps := 2000000) (disch := first | with_reducible assumption | omega | (simp only [zS, zA, seval] <;> omega) | fail) only [zS, argl, insA, Go.Den.wh, wo, wu, looks, wbb, wab, idOf, riA, seval, Go.Den.wm, kK, *]) | (with_reducible (first | apply z1 | apply z2 | apply z3 | apply z4) <;> intro hq <;> (try simp only [zH] at hq) <;> (try (exfalso; omega)))))
    all_goals rfl
theorem ev_Len (n : Nat) (hn : n ≤ 12) : ∃ k : Int, lim Try.prog cfg (.call 100 [.int .u64 n]) (HP []) = some (.val (.int .i64 k), HP []) := by
  obtain ⟨k, h⟩ := ev_Len64 n hn
  refine ⟨k, ?_⟩
  refine wub hc wgt (Nat.le_of_ble_eq_true rfl) (Nat.le_of_ble_eq_true rfl) ?_
  unfold wop
  (repeat' (first | (simp -implicitDefEqProofs (maxSteps := 2000000) (disch := first | with_reducible assumption | omega | (simp only [zS, zA, seval] <;> omega) | fail) only [zS, argl, insA, Go.Den.wh, wo, wu, looks, wbb, wab, idOf, riA, seval, Go.Den.wm, kK, *]) | (with_reducible (first | apply z1 | apply z2 | apply z3 | apply z4) <;> intro hq <;> (try simp only [zH] at hq) <;> (try (exfalso; omega)))))
theorem ev_Sort (l : List Int) (h0 : 0 < l.length) (h12 : l.length ≤ 12) : lim Try.prog cfg (.call 68 [slV l.length]) (HP (yB l)) = some (.val (.tuple ⟨[]⟩), HP (yB (wwp l))) := by
  obtain ⟨k, hk⟩ := ev_Len l.length h12
  have h := ev_pdq l h0 h12 k
  have hl := wbv l
  unfold yB at h ⊢
  rw [hl] at h ⊢
  generalize wwp l = m at *
  obtain ⟨rr, rn⟩ := rY h0
  refine wub hc wtj (Nat.le_of_ble_eq_true rfl) (Nat.le_of_ble_eq_true rfl) ?_
  unfold wsi
  (repeat' (first | (simp -implicitDefEqProofs (maxSteps := 2000000) (disch := first | with_reducible assumption | omega | (simp only [zS, zA, seval, rr, rn, whb, zD, wpd, wei, wul, wqd, wvl, wbg, wwl, wve, wcg, wwe, wdg, wrd, wdl, wxe, wrk, wuc, wxl, wrb, wsb, wne, woe, wkc, wlc, wpe, wsf, wtf, wue, wmc, wac, wjd, wnc, wkd, woc, wdi, wqe, wre, wuf, wvf, wld, wpc, wwf, wse, wte, wqc, wbc, wxf, wyf, wrc, wmd, wzf, wnd, wsc, wad, wde, wtc, wag, wod, Bool.false_and] <;> omega) | fail) only [zS, argl, insA, Go.Den.wh, wo, wu, looks, wbb, wab, idOf, riA, seval, Go.Den.wm, kK, rr, rn, whb, Nat.mul_one, Nat.max_self, *, zT, wpd, wei, wul, wqd, wvl, wbg, wwl, wve, wcg, wwe, wdg, wrd, wdl, wxe, wrk, wuc, wxl, wrb, wsb, wne, woe, wkc, wlc, wpe, wsf, wtf, wue, wmc, wac, wjd, wnc, wkd, woc, wdi, wqe, wre, wuf, wvf, wld, wpc, wwf, wse, wte, wqc, wbc, wxf, wyf, wrc, wmd, wzf, wnd, wsc, wad, wde, wtc, wag, wod, Bool.false_and]) | (with_reducible (first | apply z1 | apply z2 | apply z3 | apply z4) <;> intro hq <;> (try simp only [zH] at hq) <;> (try (exfalso; omega)))))
theorem ev_Sort0 : lim Try.prog cfg (.call 68 [.slice none 0 0]) (HP []) = some (.val (.tuple ⟨[]⟩), HP []) := by
  obtain ⟨k, hk⟩ := ev_Len 0 (by omega)
  have h := ev_pdq0 k
  rw [show ((0 : Nat) : Int) = 0 from rfl] at hk
  refine wub hc wtj (Nat.le_of_ble_eq_true rfl) (Nat.le_of_ble_eq_true rfl) ?_
  unfold wsi
  (repeat' (first | (simp -implicitDefEqProofs (maxSteps := 2000000) (disch := first | with_reducible assumption | omega | (simp only [zS, zA, seval, zD] <;> omega) | fail) only [zS, argl, insA, Go.Den.wh, wo, wu, looks, wbb, wab, idOf, riA, seval, Go.Den.wm, kK, *, zT]) | (with_reducible (first | apply z1 | apply z2 | apply z3 | apply z4) <;> intro hq <;> (try simp only [zH] at hq) <;> (try (exfalso; omega)))))
theorem ej61 : (EJ 61 G1).get 2 = JK := rfl
theorem wjfc (l : List Int) (hl : l.length ≤ 12) (hs : ∀ i, i + 1 < l.length → l.getD i 0 < l.getD (i + 1) 0) : ∀ (k i : Nat), i + k = l.length → 0 < i →
    lim Try.prog cfg (.loop 69 0 (wze 0) (SE (EJ 61 G1) [(3, .int .i64 i), (0, FL l.length (ints l))])) (HP []) = some (.code (.exit 0) (SE (EJ 61 G1) [(2, JK), (0, FL l.length (ints l))]), HP []) := by
  intro k
  induction k with
  | zero =>
    intro i hi h0
    clear hs
    refine wcb wci ?_
    unfold wxg
    (repeat' (first | (simp -implicitDefEqProofs (maxSteps := 2000000) (disch := first | with_reducible assumption | omega | (simp only [zS, zA, seval, whb, wpb, wic, zD] <;> omega) | fail) only [zS, argl, insA, Go.Den.wh, wo, wu, looks, wbb, wab, idOf, riA, seval, Go.Den.wm, kK, wyg, wmb, wyb, whb, wpb, wic, ej61, *, zT]) | (with_reducible (first | apply z1 | apply z2 | apply z3 | apply z4) <;> intro hq <;> (try simp only [zH] at hq) <;> (try (exfalso; omega))) | (with_reducible apply z5; (case hl => (repeat (first | exact .nil | with_reducible apply z6 | with_reducible apply z7))); (case h => kernel_rfl))))
  | succ k ih =>
    intro i hi h0
    have h := ih (i + 1) (by omega) (by omega)
    have h1 := hs (i - 1) (by omega)
    rw [show i - 1 + 1 = i by omega] at h1
    have g1 := wgp (l := l) (i := i) (by omega)
    have g0 := wgp (l := l) (i := i - 1) (by omega)
    have e1 : ((i : Int) - 1).toNat = i - 1 := by omega
    clear ih hs
    generalize l.getD i 0 = x at *
    generalize l.getD (i - 1) 0 = y at *
    refine wcb wci ?_
    unfold wxg
    (repeat' (first | (simp -implicitDefEqProofs (maxSteps := 2000000) (disch := first | with_reducible assumption | omega | (simp only [zS, zA, seval, whb, wpb, wic, zD] <;> omega) | fail) only [zS, argl, insA, Go.Den.wh, wo, wu, looks, wbb, wab, idOf, riA, seval, Go.Den.wm, kK, wyg, wmb, wyb, whb, Nat.mul_one, wpb, wic, ej61, *, zT]) | (with_reducible (first | apply z1 | apply z2 | apply z3 | apply z4) <;> intro hq <;> (try simp only [zH] at hq) <;> (try (exfalso; omega))) | (with_reducible apply z5; (case hl => (repeat (first | exact .nil | with_reducible apply z6 | with_reducible apply z7))); (case h => kernel_rfl))))
    all_goals exact h
theorem wfcb (l : List Int) (hl : l.length ≤ 12) (hs : ∀ i, i + 1 < l.length → l.getD i 0 < l.getD (i + 1) 0) : lim Try.prog cfg (.call 69 [FL l.length (ints l)]) (HP []) = some (.val (FL l.length (ints l)), HP []) := by
  by_cases h2 : l.length < 2
  · clear hs
    refine wub hc wwi (Nat.le_of_ble_eq_true rfl) (Nat.le_of_ble_eq_true rfl) ?_
    unfold wqh
    (repeat' (first | (simp -implicitDefEqProofs (maxSteps := 2000000) (disch := first | with_reducible assumption | omega | (simp only [zS, zA, seval, whb, zD] <;> omega) | fail) only [zS, argl, insA, Go.Den.wh, wo, wu, looks, wbb, wab, idOf, riA, seval, Go.Den.wm, kK, wmb, wyb, whb, *, zT]) | (with_reducible (first | apply z1 | apply z2 | apply z3 | apply z4) <;> intro hq <;> (try simp only [zH] at hq) <;> (try (exfalso; omega)))))
  · have h := wjfc l hl hs (l.length - 1) 1 (by omega) (by omega)
    rw [show ((1 : Nat) : Int) = 1 from rfl] at h
    clear hs
    refine wub hc wwi (Nat.le_of_ble_eq_true rfl) (Nat.le_of_ble_eq_true rfl) ?_
    unfold wqh
    (repeat' (first | (simp -implicitDefEqProofs (maxSteps := 2000000) (disch := first | with_reducible assumption | omega | (simp only [zS, zA, seval, whb, wpb, wic, zD] <;> omega) | fail) only [zS, argl, insA, Go.Den.wh, wo, wu, looks, wbb, wab, idOf, riA, seval, Go.Den.wm, kK, wyg, wmb, wyb, whb, wpb, wic, ej61, *, zT]) | (with_reducible (first | apply z1 | apply z2 | apply z3 | apply z4) <;> intro hq <;> (try simp only [zH] at hq) <;> (try (exfalso; omega)))))
theorem wcv {l : List Int} {x : Int} : ints (l ++ [x]) = ints l ++ [.int .i64 x] := by rw [ints, List.map_append]; rfl
def atL (xs : List St) : List Int := xs.map (·.1)
theorem wht {xs : List St} : (atL xs).length = xs.length := List.length_map ..
theorem wnpb {xs : List St} {j : Nat} (h : j < xs.length) : atL (xs.drop j) = (xs.getD j St.zero).1 :: atL (xs.drop (j + 1)) := by
  unfold atL
  rw [List.drop_eq_getElem_cons h, List.map_cons, List.getD_eq_getElem?_getD, List.getElem?_eq_getElem h]; rfl
theorem rY1 {N : Nat} : refs (.slice (some ⟨0, 0, some 1⟩) (N + 1) 0) = [(0, 1)] ∧ ∀ m, renV m (.slice (some ⟨0, 0, some 1⟩) (N + 1) 0) = .slice (some ⟨(m 0 1).1, 0, some (m 0 1).2⟩) (N + 1) 0 := ⟨wad (by omega), fun _ => wde (by omega)⟩
theorem ends_C (xs : List St) (h12 : xs.length ≤ 12) : ∀ (k j : Nat) (l : List Int), j + k = xs.length → 0 < l.length → l.length ≤ 12 →
    lim Try.prog cfg (.loop 31 0 (wcl 0) (SE (EJ 32 G1) [(18, .int .i64 j), (17, .int .i64 xs.length), (16, FL xs.length (stsC xs)), (9, slV l.length)])) (HP (yB l)) = some (.code (.exit 0) (SE (EJ 32 G1) [(9, slV (l ++ atL (xs.drop j)).length)]), HP (yB (l ++ atL (xs.drop j)))) ∨ 12 < l.length + k := by
  intro k
  induction k with
  | zero =>
    intro j l hj h0 hl
    left
    rw [List.drop_of_length_le (by omega), show atL [] = [] from rfl, List.append_nil]
    obtain ⟨rr, rn⟩ := rY h0
    refine wcb wyj ?_
    unfold wqk
    (repeat' (first | (simp -implicitDefEqProofs (maxSteps := 2000000) (disch := first | with_reducible assumption | omega | (simp only [zS, zA, seval, rr, rn, wfo, whb, zD, wpd, wei, wul, wqd, wvl, wbg, wwl, wve, wcg, wwe, wdg, wrd, wdl, wxe, wrk, wuc, wxl, wrb, wsb, wne, woe, wkc, wlc, wpe, wsf, wtf, wue, wmc, wac, wjd, wnc, wkd, woc, wdi, wqe, wre, wuf, wvf, wld, wpc, wwf, wse, wte, wqc, wbc, wxf, wyf, wrc, wmd, wzf, wnd, wsc, wad, wde, wtc, wag, wod, Bool.false_and] <;> omega) | fail) only [zS, argl, insA, Go.Den.wh, wo, wu, looks, wbb, wab, idOf, riA, seval, Go.Den.wm, kK, whj, rr, rn, whb, *, zT, wpd, wei, wul, wqd, wvl, wbg, wwl, wve, wcg, wwe, wdg, wrd, wdl, wxe, wrk, wuc, wxl, wrb, wsb, wne, woe, wkc, wlc, wpe, wsf, wtf, wue, wmc, wac, wjd, wnc, wkd, woc, wdi, wqe, wre, wuf, wvf, wld, wpc, wwf, wse, wte, wqc, wbc, wxf, wyf, wrc, wmd, wzf, wnd, wsc, wad, wde, wtc, wag, wod, Bool.false_and]) | (with_reducible (first | apply z1 | apply z2 | apply z3 | apply z4) <;> intro hq <;> (try simp only [zH] at hq) <;> (try (exfalso; omega)))))
  | succ k ih =>
    intro j l hj h0 hl
    by_cases hq : 12 < l.length + (k + 1)
    · exact .inr hq
    left
    have hlt : j < xs.length := by omega
    rcases ih (j + 1) (l ++ [(xs.getD j St.zero).1]) (by omega) (by simp) (by rw [List.length_append, List.length_singleton]; omega) with h | h
    · rw [List.append_assoc, List.singleton_append, ← wnpb hlt] at h
      unfold yB at h ⊢
      rw [wcv, List.length_append, List.length_singleton] at h
      have hsl := wkm (l := xs) (i := j) hlt
      generalize l ++ atL (xs.drop j) = R at h ⊢
      generalize xs.getD j St.zero = x at *
      clear ih
      obtain ⟨rr, rn⟩ := rY h0
      obtain ⟨r1, n1⟩ := rY1 (N := l.length)
      refine wcb wyj ?_
      unfold wqk
      (repeat' (first | (simp -implicitDefEqProofs (maxSteps := 2000000) (disch := first | with_reducible assumption | omega | (simp only [zS, zA, seval, rr, rn, r1, n1, wfo, whb, wek, Nat.mul_one, zD, wpd, wei, wul, wqd, wvl, wbg, wwl, wve, wcg, wwe, wdg, wrd, wdl, wxe, wrk, wuc, wxl, wrb, wsb, wne, woe, wkc, wlc, wpe, wsf, wtf, wue, wmc, wac, wjd, wnc, wkd, woc, wdi, wqe, wre, wuf, wvf, wld, wpc, wwf, wse, wte, wqc, wbc, wxf, wyf, wrc, wmd, wzf, wnd, wsc, wad, wde, wtc, wag, wod, Bool.false_and] <;> omega) | fail) only [zS, argl, insA, Go.Den.wh, wo, wu, looks, wbb, wab, idOf, riA, seval, Go.Den.wm, kK, whj, rr, rn, r1, n1, whb, wek, Nat.mul_one, List.length_append, List.length_cons, List.length_nil, *, zT, wpd, wei, wul, wqd, wvl, wbg, wwl, wve, wcg, wwe, wdg, wrd, wdl, wxe, wrk, wuc, wxl, wrb, wsb, wne, woe, wkc, wlc, wpe, wsf, wtf, wue, wmc, wac, wjd, wnc, wkd, woc, wdi, wqe, wre, wuf, wvf, wld, wpc, wwf, wse, wte, wqc, wbc, wxf, wyf, wrc, wmd, wzf, wnd, wsc, wad, wde, wtc, wag, wod, Bool.false_and]) | (with_reducible (first | apply z1 | apply z2 | apply z3 | apply z4) <;> intro hq <;> (try simp only [zH] at hq) <;> (try (exfalso; omega)))))
      all_goals exact h
    · rw [List.length_append, List.length_singleton] at h; omega
theorem ends_N (xs : List St) (h12 : xs.length ≤ 12) (h0 : 0 < xs.length) :
    lim Try.prog cfg (.loop 31 0 (wcl 0) (SE (EJ 32 G1) [(18, .int .i64 0), (17, .int .i64 xs.length), (16, FL xs.length (stsC xs)), (9, .slice none 0 0)])) (HP []) = some (.code (.exit 0) (SE (EJ 32 G1) [(9, slV (atL xs).length)]), HP (yB (atL xs))) := by
  rcases ends_C xs h12 (xs.length - 1) 1 [(xs.getD 0 St.zero).1] (by omega) (by simp) (by simp) with h | h
  · have hd := wnpb h0
    rw [List.drop_zero] at hd
    rw [List.singleton_append, ← hd] at h
    unfold yB at h ⊢
    rw [show ints [(xs.getD 0 St.zero).1] = [.int .i64 (xs.getD 0 St.zero).1] from rfl, List.length_singleton, show ((1 : Nat) : Int) = 1 from rfl] at h
    have hsl := wkm (l := xs) (i := 0) h0
    rw [Nat.zero_mul] at hsl
    generalize xs.getD 0 St.zero = x at *
    generalize atL xs = R at *
    clear hd
    obtain ⟨rr, rn⟩ := rY (N := 1) (by omega)
    refine wcb wyj ?_
    unfold wqk
    (repeat' (first | (simp -implicitDefEqProofs (maxSteps := 2000000) (disch := first | with_reducible assumption | omega | (simp only [zS, zA, seval, rr, rn, wfo, whb, wek, Nat.mul_one, zD, wpd, wei, wul, wqd, wvl, wbg, wwl, wve, wcg, wwe, wdg, wrd, wdl, wxe, wrk, wuc, wxl, wrb, wsb, wne, woe, wkc, wlc, wpe, wsf, wtf, wue, wmc, wac, wjd, wnc, wkd, woc, wdi, wqe, wre, wuf, wvf, wld, wpc, wwf, wse, wte, wqc, wbc, wxf, wyf, wrc, wmd, wzf, wnd, wsc, wad, wde, wtc, wag, wod, Bool.false_and] <;> omega) | fail) only [zS, argl, insA, Go.Den.wh, wo, wu, looks, wbb, wab, idOf, riA, seval, Go.Den.wm, kK, whj, rr, rn, whb, wek, Nat.mul_one, List.length_append, List.length_cons, List.length_nil, *, zT, wpd, wei, wul, wqd, wvl, wbg, wwl, wve, wcg, wwe, wdg, wrd, wdl, wxe, wrk, wuc, wxl, wrb, wsb, wne, woe, wkc, wlc, wpe, wsf, wtf, wue, wmc, wac, wjd, wnc, wkd, woc, wdi, wqe, wre, wuf, wvf, wld, wpc, wwf, wse, wte, wqc, wbc, wxf, wyf, wrc, wmd, wzf, wnd, wsc, wad, wde, wtc, wag, wod, Bool.false_and]) | (with_reducible (first | apply z1 | apply z2 | apply z3 | apply z4) <;> intro hq <;> (try simp only [zH] at hq) <;> (try (exfalso; omega)))))
    all_goals exact h
  · rw [List.length_singleton] at h; omega
theorem wyub {l : List Int} : slotsOf (ints l) 0 l.length = ints l := by
  unfold slotsOf
  rw [List.drop_zero, List.take_of_length_le (by rw [whb]; exact Nat.le_refl _)]
set_option maxHeartbeats 4000000 in
theorem ev_Ends (r : Rx) (hn : wce r ≤ 1000000) (s : List UInt8) (hs : s.length ≤ 12) (bol : Bool) (a : Int) (h12 : (wpg r s bol a).length ≤ 12)
    (hup : ∀ i, i + 1 < (wwp (atL (wpg r s bol a))).length → (wwp (atL (wpg r s bol a))).getD i 0 < (wwp (atL (wpg r s bol a))).getD (i + 1) 0) :
    lim Try.prog cfg (.call 31 [.agg ⟨rxC r⟩, str s, .bool bol, .int .i64 a]) (HP []) = some (.val (FL (wwp (atL (wpg r s bol a))).length (ints (wwp (atL (wpg r s bol a))))), HP []) := by
  have hw := wwec r hn s hs bol a
  generalize wpg r s bol a = xs at *
  by_cases h0 : xs = []
  · subst h0
    have e1 := ev_Sort0
    have e2 := wfcb [] (by simp) (fun i hi => by simp at hi)
    rw [show ([] : List Int).length = 0 from rfl, show ints [] = [] from rfl] at e2
    have e3 : lim Try.prog cfg (.loop 31 0 (wcl 0) (SE (EJ 32 G1) [(18, .int .i64 0), (17, .int .i64 0), (16, FL 0 []), (9, .slice none 0 0)])) (HP []) = some (.code (.exit 0) (SE (EJ 32 G1) [(9, .slice none 0 0)]), HP []) := by
      refine wcb wyj ?_
      unfold wqk
      (repeat' (first | (simp -implicitDefEqProofs (maxSteps := 2000000) (disch := first | with_reducible assumption | omega | (simp only [zS, zA, seval, zD] <;> omega) | fail) only [zS, argl, insA, Go.Den.wh, wo, wu, looks, wbb, wab, idOf, riA, seval, Go.Den.wm, kK, whj, *, zT]) | (with_reducible (first | apply z1 | apply z2 | apply z3 | apply z4) <;> intro hq <;> (try simp only [zH] at hq) <;> (try (exfalso; omega)))))
    rw [show ([] : List St).length = 0 from rfl, show stsC [] = [] from rfl] at hw
    clear hup
    rw [show wwp (atL []) = [] from rfl, show ([] : List Int).length = 0 from rfl, show ints [] = [] from rfl]
    refine wub hc wls (Nat.le_of_ble_eq_true rfl) (Nat.le_of_ble_eq_true rfl) ?_
    unfold wet
    (repeat' (first | (simp -implicitDefEqProofs (maxSteps := 2000000) (disch := first | with_reducible assumption | omega | (simp only [zS, zA, seval, rx_fz, zD] <;> omega) | fail) only [zS, argl, insA, Go.Den.wh, wo, wu, looks, wbb, wab, idOf, riA, seval, Go.Den.wm, kK, whj, *, zT]) | (with_reducible (first | apply z1 | apply z2 | apply z3 | apply z4) <;> intro hq <;> (try simp only [zH] at hq) <;> (try (exfalso; omega)))))
  · have hp : 0 < xs.length := List.length_pos_iff.2 h0
    have e1 := ends_N xs h12 hp
    have hal : (atL xs).length = xs.length := wht
    have e2 := ev_Sort (atL xs) (by omega) (by omega)
    have hsl := wbv (atL xs)
    have e3 := wfcb (wwp (atL xs)) (by omega) hup
    clear hup h0
    generalize wwp (atL xs) = m at *
    generalize atL xs = q at *
    have hpq : 0 < q.length := by omega
    have hmw := wyub (l := m)
    unfold yB at e1 e2
    rw [hsl] at e2 e3 hmw ⊢
    have hsly : slY 0 q.length (some (Y (ints m) 3 1 [q.length] 0)) = some (FL q.length (ints m), [(0, q.length)]) := by
      have := wrk (i := 0) (n := q.length) (cs := ints m) (elem := 3) (esz := 1) (a := q.length) (z := 0) (by omega) (by omega) (by rw [Nat.mul_one, hmw]; exact wek)
      rw [Nat.mul_one, hmw] at this
      exact this
    clear hal
    obtain ⟨rr, rn⟩ := rY hpq
    refine wub hc wls (Nat.le_of_ble_eq_true rfl) (Nat.le_of_ble_eq_true rfl) ?_
    unfold wet
    (repeat' (first | (simp -implicitDefEqProofs (maxSteps := 2000000) (disch := first | with_reducible assumption | omega | (simp only [zS, zA, seval, rr, rn, hsly, wfo, rx_fz, whb, wek, Nat.mul_one, zD, wpd, wei, wul, wqd, wvl, wbg, wwl, wve, wcg, wwe, wdg, wrd, wdl, wxe, wrk, wuc, wxl, wrb, wsb, wne, woe, wkc, wlc, wpe, wsf, wtf, wue, wmc, wac, wjd, wnc, wkd, woc, wdi, wqe, wre, wuf, wvf, wld, wpc, wwf, wse, wte, wqc, wbc, wxf, wyf, wrc, wmd, wzf, wnd, wsc, wad, wde, wtc, wag, wod, Bool.false_and] <;> omega) | fail) only [zS, argl, insA, Go.Den.wh, wo, wu, looks, wbb, wab, idOf, riA, seval, Go.Den.wm, kK, whj, rr, rn, whb, wek, Nat.mul_one, Nat.zero_le, Nat.max_self, *, zT, wpd, wei, wul, wqd, wvl, wbg, wwl, wve, wcg, wwe, wdg, wrd, wdl, wxe, wrk, wuc, wxl, wrb, wsb, wne, woe, wkc, wlc, wpe, wsf, wtf, wue, wmc, wac, wjd, wnc, wkd, woc, wdi, wqe, wre, wuf, wvf, wld, wpc, wwf, wse, wte, wqc, wbc, wxf, wyf, wrc, wmd, wzf, wnd, wsc, wad, wde, wtc, wag, wod, Bool.false_and]) | (with_reducible (first | apply z1 | apply z2 | apply z3 | apply z4) <;> intro hq <;> (try simp only [zH] at hq) <;> (try (exfalso; omega)))))
theorem up_of {l : List Int} (h : l.Pairwise (· < ·)) : ∀ i, i + 1 < l.length → l.getD i 0 < l.getD (i + 1) 0 := by
  intro i hi
  rw [List.getD_eq_getElem?_getD, List.getD_eq_getElem?_getD, List.getElem?_eq_getElem hi, List.getElem?_eq_getElem (show i < l.length by omega)]
  exact List.pairwise_iff_getElem.1 h i (i + 1) (by omega) hi (by omega)
theorem wopb (r : Rx) (hn : wce r ≤ 1000000) (s : List UInt8) (hs : s.length ≤ 12) (bol : Bool) (a : Int) (h12 : (wpg r s bol a).length ≤ 12) (hd : (atL (wpg r s bol a)).Pairwise (· > ·)) :
    lim Try.prog cfg (.call 31 [.agg ⟨rxC r⟩, str s, .bool bol, .int .i64 a]) (HP []) = some (.val (FL (atL (wpg r s bol a)).length (ints (atL (wpg r s bol a)).reverse)), HP []) := by
  have h := ev_Ends r hn s hs bol a h12 (by rw [wecb hd]; exact up_of (List.pairwise_reverse.2 hd))
  rw [wecb hd, List.length_reverse] at h
  exact h
end
end Go.Proofs.Ytjihbfdbgamcdaa
namespace Go.Proofs.Ytjihbfdbgamcdaa
open Go.Den
noncomputable section
def AmG (d g : Int) (r : Rx) (g' : Int) : Prop := (r.kind = 1 ∨ r.kind = 5 ∨ r.kind = 6) ∧ wai r d g = (true, g') ∧ (wce r : Int) ≤ 1 + 8 * (g' - g)
def AtG (d g : Int) (r : Rx) (g' : Int) : Prop := (r.kind = 1 ∨ r.kind = 4 ∨ r.kind = 5 ∨ r.kind = 6) ∧ wai r d g = (true, g') ∧ (wce r : Int) ≤ 2 + 8 * (g' - g)
def RwG (d g : Int) (r : Rx) (g' : Int) : Prop := wai r d g = (true, g') ∧ (wce r : Int) ≤ 8 + 8 * (g' - g)
theorem AmG.at {d g g' : Int} {r : Rx} (h : AmG d g r g') : AtG d g r g' := ⟨by rcases h.1 with h | h | h <;> simp [h], h.2.1, by have := h.2.2; omega⟩
theorem am_set {d g : Int} {s : BitVec 256} (hs : s ≠ 0#256) : AmG d g (.mk 1 0 0 0 s []) g := by
  refine ⟨.inl rfl, ?_, by rw [wce, whc]; omega⟩
  have hb : wxeb (.mk 1 0 0 0 s []) = true := rfl
  have hk : wun (.mk 1 0 0 0 s []) = true := by
    show (decide ((0 : Int) = 0) && decide (s ≠ 0#256)) = true
    rw [decide_eq_true hs]; rfl
  rw [wai, if_pos hb, if_pos hk, if_neg (by decide), if_neg (by decide), wlf]
theorem at_rep {d g g' lo hi : Int} {r : Rx} (h : AmG d g r g') (l0 : 0 ≤ lo) (l1 : lo ≤ 20) (hh : hi = -1 ∨ (max lo 1 ≤ hi ∧ hi ≤ 20)) : AtG d g (.mk 4 lo hi 0 0#256 [r]) g' := by
  refine ⟨.inr (.inl rfl), ?_, by rw [wce, whc, whc]; have := h.2.2; omega⟩
  have hb : wxeb (.mk 4 lo hi 0 0#256 [r]) = true := rfl
  have hr : repF (.mk 4 lo hi 0 0#256 [r]) = true := by
    show (decide (0 ≤ lo) && (decide (lo ≤ 20) && (decide (hi = -1) || (decide (max lo 1 ≤ hi) && decide (hi ≤ 20))))) = true
    rw [decide_eq_true l0, decide_eq_true l1, Bool.true_and, Bool.true_and]
    rcases hh with h | h
    · rw [decide_eq_true h]; rfl
    · rw [decide_eq_true h.1, decide_eq_true h.2, Bool.true_and, Bool.or_true]
  have hk : wun (.mk 4 lo hi 0 0#256 [r]) = true := by
    show (decide ((([r] : List Rx).length : Int) = 1) && (([r] : List Rx).any (wqi [1, 5, 6]) && repF (.mk 4 lo hi 0 0#256 [r]))) = true
    rw [hr, List.any_cons, List.any_nil, Bool.or_false, Bool.and_true]
    have : wqi [1, 5, 6] r = true := by
      unfold wqi
      rcases h.1 with h | h | h <;> rw [h] <;> rfl
    rw [this]; rfl
  rw [wai, if_pos hb, if_pos hk, if_neg (by decide), if_neg (by decide), wlf, h.2.1, if_pos rfl, wlf]
def RsG (d : Int) : Int → List Rx → Int → Prop
  | g, [], g' => g = g'
  | g, r :: l, g' => ∃ g1, AtG d g r g1 ∧ RsG d g1 l g'
theorem RsG.walks {d : Int} : ∀ {l : List Rx} {g g' : Int}, RsG d g l g' → wlf l d g = (true, g') ∧ (whc l : Int) ≤ 2 * l.length + 8 * (g' - g) ∧ ∀ r ∈ l, r.kind = 1 ∨ r.kind = 4 ∨ r.kind = 5 ∨ r.kind = 6 := by
  intro l
  induction l with
  | nil => intro g g' h; cases h; exact ⟨by rw [wlf], by rw [whc]; simp, fun r hr => by cases hr⟩
  | cons a l ih =>
    intro g g' h
    obtain ⟨g1, h1, h2⟩ := h
    obtain ⟨i1, i2, i3⟩ := ih h2
    refine ⟨?_, ?_, ?_⟩
    · rw [wlf, h1.2.1, if_pos rfl, i1]
    · rw [whc, List.length_cons]; have := h1.2.2; omega
    · intro r hr
      rcases List.mem_cons.1 hr with rfl | hr
      · exact h1.1
      · exact i3 r hr
theorem wzub {d : Int} : ∀ (l : List Rx) (g g' : Int) (r : Rx), wlf l d g = (true, g') → wlf (l ++ [r]) d g = (if (wai r d g').1 = true then (true, (wai r d g').2) else (false, (wai r d g').2)) := by
  intro l
  induction l with
  | nil => intro g g' r h; rw [wlf] at h; cases h; rw [List.nil_append, wlf, wlf]
  | cons a l ih =>
    intro g g' r h
    rw [wlf] at h
    rw [List.cons_append, wlf]
    by_cases ha : (wai a d g).1 = true
    · rw [if_pos ha] at h ⊢
      exact ih _ _ _ h
    · rw [if_neg ha] at h; cases h
theorem wppb {d g g' : Int} {l : List Rx} (hw : wlf l d g = (true, g')) (hl : l.length ≠ 1) (hk : ∀ r ∈ l, r.kind ≠ 2 ∧ r.kind ≠ 3) : wai (.mk 2 0 0 0 0#256 l) d g = (true, g') := by
  have hb : wxeb (.mk 2 0 0 0 0#256 l) = true := rfl
  have hk : wun (.mk 2 0 0 0 0#256 l) = true := by
    show (decide ((l.length : Int) ≠ 1) && !(l.any (wqi [2, 3]))) = true
    rw [decide_eq_true (by omega), Bool.true_and, Bool.not_eq_true', List.any_eq_false]
    intro r hr
    unfold wqi
    have := hk r hr
    simp [this.1, this.2]
  rw [wai, if_pos hb, if_pos hk, if_neg (by decide), if_neg (by decide), hw]
theorem walk_end {d g : Int} : wai (.mk 8 0 0 0 0#256 []) d g = (true, g) := by
  have hb : wxeb (.mk 8 0 0 0 0#256 []) = true := rfl
  have hk : wun (.mk 8 0 0 0 0#256 []) = true := rfl
  rw [wai, if_pos hb, if_pos hk, if_neg (by decide), if_neg (by decide), wlf]
theorem wqpb {r : Rx} (h : r.kind = 1 ∨ r.kind = 4 ∨ r.kind = 5 ∨ r.kind = 6) : r.kind ≠ 2 ∧ r.kind ≠ 3 := by omega
theorem RsG.cat {d g g' : Int} {l : List Rx} (h : RsG d g l g') (h2 : 2 ≤ l.length) : wai (.mk 2 0 0 0 0#256 l) d g = (true, g') ∧ (wce (.mk 2 0 0 0 0#256 l) : Int) ≤ 1 + 2 * l.length + 8 * (g' - g) := by
  obtain ⟨i1, i2, i3⟩ := h.walks
  refine ⟨wppb i1 (by omega) fun r hr => wqpb (i3 r hr), ?_⟩
  rw [wce]; omega
theorem whnb {l : List Rx} {r : Rx} : whc (l ++ [r]) = whc l + wce r := by
  induction l with
  | nil => rw [List.nil_append, whc, whc, whc]; omega
  | cons a l ih => rw [List.cons_append, whc, whc, ih]; omega
theorem RsG.end {d g g' : Int} {l : List Rx} (h : RsG d g l g') (h2 : 2 ≤ l.length) (h3 : l.length ≤ 3) : RwG d g (.mk 2 0 0 0 0#256 (l ++ [.mk 8 0 0 0 0#256 []])) g' := by
  obtain ⟨i1, i2, i3⟩ := h.walks
  refine ⟨wppb ?_ (by rw [List.length_append, List.length_singleton]; omega) ?_, ?_⟩
  · rw [wzub _ _ _ _ i1, walk_end]; rfl
  · intro r hr
    rcases List.mem_append.1 hr with hr | hr
    · exact wqpb (i3 r hr)
    · rw [List.mem_singleton] at hr; subst hr
      exact ⟨by show (8 : Int) ≠ 2; decide, by show (8 : Int) ≠ 3; decide⟩
  · rw [wce, whnb, wce, whc]; omega
theorem AtG.row {d g g' : Int} {r : Rx} (h : AtG d g r g') : RwG d g r g' := ⟨h.2.1, by have := h.2.2; omega⟩
end
end Go.Proofs.Ytjihbfdbgamcdaa
namespace Go.Proofs.Ytjihbfdbgamcdaa
open Go.Den
noncomputable section
end
end Go.Proofs.Ytjihbfdbgamcdaa
namespace Go.Proofs.Ytjihbfdbgamcdaa
open Go.Den
noncomputable section
theorem st_get {l : List St} {i : Nat} (h : i < l.length) : l.getD i St.zero = l[i] := by
  rw [List.getD_eq_getElem?_getD, List.getElem?_eq_getElem h]; rfl
theorem wuib (n hi : Int) (h0 : 0 ≤ hi) : 0 ≤ wdj n 0 hi ∧ wdj n 0 hi ≤ hi := by
  unfold wdj
  have h1 := Int.emod_nonneg n (show hi - 0 + 1 ≠ 0 by omega)
  have h2 := Int.emod_lt_of_pos n (show 0 < hi - 0 + 1 by omega)
  rw [Int.tmod_eq_emod]
  repeat' split
  all_goals omega
end
end Go.Proofs.Ytjihbfdbgamcdaa
namespace Go.Proofs.Ytjihbfdbgamcdaa
set_option linter.unusedVariables false
set_option linter.unusedSimpArgs false
open Go.Den
noncomputable section
def rngF (i lo n : Nat) : List Int := (List.range' lo n).map fun j => ((i + j : Nat) : Int)
theorem wdv {i lo n : Nat} : (rngF i lo n).length = n := by unfold rngF; rw [List.length_map, List.length_range']
theorem wvib {i lo : Nat} : rngF i lo 0 = [] := rfl
theorem wwib {i lo n : Nat} : rngF i lo (n + 1) = ((i + lo : Nat) : Int) :: rngF i (lo + 1) n := by unfold rngF; rw [List.range'_succ, List.map_cons]
theorem wcfb (s : List UInt8) (hs : s.length < 100) (S : BitVec 256) (mn : Nat) (mx : Int) (i : Nat) (hr : wpp (repX mn mx S) = true) (hi : i ≤ s.length) :
    (atL (wpg (repX mn mx S) s true i)).reverse = rngF i mn (topX S mx (s.drop i) 0 + 1 - mn) := by
  unfold wpg
  rw [if_pos ⟨hr, by omega, by omega⟩, wcfc s hs]
  have h := repL_asc (S := S) (mn := mn) (mx := mx) i (s.drop i) 0
  rw [show max 0 mn = mn by omega, show i + 0 = i from rfl] at h
  unfold atL rngF
  rw [List.map_map, ← List.map_reverse, h, List.map_map]
  apply List.map_congr_left
  intro j _
  rfl
theorem wxib (s : List UInt8) (hs : s.length < 100) (S : BitVec 256) (mn : Nat) (mx : Int) (i : Nat) (hr : wpp (repX mn mx S) = true) (hi : i ≤ s.length) : (atL (wpg (repX mn mx S) s true i)).Pairwise (· > ·) := by
  rw [← List.reverse_reverse (atL _), wcfb s hs S mn mx i hr hi, List.pairwise_reverse]
  unfold rngF
  rw [List.pairwise_map]
  exact List.Pairwise.imp (fun h => by show ((i + _ : Nat) : Int) < ((i + _ : Nat) : Int); omega) (List.pairwise_lt_range')
theorem wkfc (s : List UInt8) (hs : s.length < 100) (S : BitVec 256) (mn : Nat) (mx : Int) (i : Nat) (hr : wpp (repX mn mx S) = true) (hi : i ≤ s.length) : (wpg (repX mn mx S) s true i).length = topX S mx (s.drop i) 0 + 1 - mn := by
  rw [← wht, ← List.length_reverse, wcfb s hs S mn mx i hr hi, wdv]
theorem wyib {S : BitVec 256} (hS : S ≠ 0#256) {lo hi : Int} (l0 : 0 ≤ lo) (l1 : lo ≤ 20) (hh : hi = -1 ∨ (max lo 1 ≤ hi ∧ hi ≤ 20)) : wpp (repX lo hi S) = true := by
  unfold wpp
  rw [(at_rep (d := 0) (g := 0) (am_set hS) l0 l1 hh).2.1]
  simp only [repX, setX, wce, whc]
  rfl
theorem wyz {S : BitVec 256} {lo hi : Int} : wce (repX lo hi S) ≤ 1000000 := by simp only [repX, setX, wce, whc]; omega
abbrev wtB : ABlk := X (rxM (one 97 ||| one 98)) 46 0 false
abbrev wtF (s : List UInt8) (i a b : Int) : List (Nat × Value) := [(13, .pointer (some ⟨0, 0, none⟩)), (12, .int .i64 b), (11, .int .i64 a), (10, .int .i64 i), (9, str s)]
set_option maxHeartbeats 4000000 in
theorem wt_run (s : List UInt8) (hs : s.length ≤ 12) (i : Nat) (a b : Int) : ∀ (l : List UInt8) (r : Nat), s.drop (i + r) = l → i + r ≤ s.length →
    lim Try.prog cfg (.loop 8 0 (wkb 0) (SE (EJ 142 G0) ((14, .int .i64 r) :: wtF s i a b))) (HP [wtB]) = some (.code (.exit 0) (SE (EJ 142 G0) ((14, .int .i64 (r + runX AB l : Nat)) :: wtF s i a b)), HP [wtB]) := by
  intro l
  induction l with
  | nil =>
    intro r hd hh
    have hl := wpw hd
    rw [runX, Nat.add_zero]
    clear hd
    refine wcb wif ?_
    unfold wef
    (repeat' (first | (simp -implicitDefEqProofs (maxSteps := 2000000) (disch := first | with_reducible assumption | omega | (simp only [zS, zA, seval, wxi, zD] <;> omega) | fail) only [zS, argl, insA, Go.Den.wh, wo, wu, looks, wbb, wab, idOf, riA, seval, Go.Den.wm, kK, wie, wmb, wyb, *, zT]) | (with_reducible (first | apply z1 | apply z2 | apply z3 | apply z4) <;> intro hq <;> (try simp only [zH] at hq) <;> (try (exfalso; omega)))))
  | cons c l ih =>
    intro r hd hh
    obtain ⟨hl, hc, hd1⟩ := wqw hd
    rw [runX]
    have hi := ih (r + 1) hd1 (by omega)
    rw [show r + 1 + runX AB l = r + (runX AB l + 1) by omega] at hi
    have e1 : ((i : Int) + r).toNat = i + r := by omega
    rcases hasAB c with ⟨q, q1⟩ | ⟨q, q1, q2⟩ | ⟨q, q1, q2⟩
    · rw [if_pos q]
      generalize r + (runX AB l + 1) = z at *
      rw [← hc] at q1
      clear ih hd hd1 hc q
      refine wcb wif ?_
      unfold wef
      (repeat' (first | (simp -implicitDefEqProofs (maxSteps := 2000000) (disch := first | with_reducible assumption | omega | (simp only [zS, zA, seval, wxi, zD] <;> omega) | fail) only [zS, argl, insA, Go.Den.wh, wo, wu, looks, wbb, wab, idOf, riA, seval, Go.Den.wm, kK, wie, wmb, wyb, *, zT]) | (with_reducible (first | apply z1 | apply z2 | apply z3 | apply z4) <;> intro hq <;> (try simp only [zH] at hq) <;> (try (exfalso; omega)))))
      all_goals first | exact hi | trace_state
    · rw [if_pos q]
      generalize r + (runX AB l + 1) = z at *
      rw [← hc] at q1 q2
      clear ih hd hd1 hc q
      refine wcb wif ?_
      unfold wef
      (repeat' (first | (simp -implicitDefEqProofs (maxSteps := 2000000) (disch := first | with_reducible assumption | omega | (simp only [zS, zA, seval, wxi, zD] <;> omega) | fail) only [zS, argl, insA, Go.Den.wh, wo, wu, looks, wbb, wab, idOf, riA, seval, Go.Den.wm, kK, wie, wmb, wyb, *, zT]) | (with_reducible (first | apply z1 | apply z2 | apply z3 | apply z4) <;> intro hq <;> (try simp only [zH] at hq) <;> (try (exfalso; omega)))))
      all_goals first | exact hi | trace_state
    · rw [if_neg q, Nat.add_zero]
      rw [← hc] at q1 q2
      clear ih hd hd1 hc q hi
      refine wcb wif ?_
      unfold wef
      (repeat' (first | (simp -implicitDefEqProofs (maxSteps := 2000000) (disch := first | with_reducible assumption | omega | (simp only [zS, zA, seval, wxi, zD] <;> omega) | fail) only [zS, argl, insA, Go.Den.wh, wo, wu, looks, wbb, wab, idOf, riA, seval, Go.Den.wm, kK, wie, wmb, wyb, *, zT]) | (with_reducible (first | apply z1 | apply z2 | apply z3 | apply z4) <;> intro hq <;> (try simp only [zH] at hq) <;> (try (exfalso; omega)))))
abbrev wtV (t : Nat) (l : List Int) : Value := FO t l.length (ints l)
abbrev wtK (l : List Int) : ABlk := .tok l.length 3 1
set_option maxHeartbeats 4000000 in
theorem wt_any (s : List UInt8) (i a b run : Nat) (hr : i + run ≤ 12) (hb : b ≤ 8) (W : List Int) : ∀ (k n : Nat) (A : List Int), n + k = run + 1 → b < n → 0 < A.length → A.length ≤ n →
    lim Try.prog cfg (.loop 8 0 (wkb 1) (SE (EJ 142 G0) ((17, .int .i64 n) :: (16, wtV 2 A) :: (15, wtV 1 W) :: (14, .int .i64 run) :: wtF s i a b))) (HP [wtB, wtK W, wtK A])
      = some (.code (.exit 2) (SE (EJ 142 G0) ((16, wtV 2 (A ++ rngF i n k)) :: (15, wtV 1 W) :: wtF s i a b)), HP [wtB, wtK W, wtK (A ++ rngF i n k)]) := by
  intro k
  induction k with
  | zero =>
    intro n A hn hb2 h0 hA
    rw [wvib, List.append_nil]
    refine wcb wsd ?_
    unfold wud
    (repeat' (first | (simp -implicitDefEqProofs (maxSteps := 2000000) (disch := first | with_reducible assumption | omega | (simp only [zS, zA, seval, wxi, whb, zD] <;> omega) | fail) only [zS, argl, insA, Go.Den.wh, wo, wu, looks, wbb, wab, idOf, riA, seval, Go.Den.wm, kK, wwc, wmb, wyb, whb, *, zT]) | (with_reducible (first | apply z1 | apply z2 | apply z3 | apply z4) <;> intro hq <;> (try simp only [zH] at hq) <;> (try (exfalso; omega)))))
  | succ k ih =>
    intro n A hn hb2 h0 hA
    have h := ih (n + 1) (A ++ [((i + n : Nat) : Int)]) (by omega) (by omega) (by simp) (by rw [List.length_append, List.length_singleton]; omega)
    rw [List.append_assoc, List.singleton_append, ← wwib] at h
    generalize A ++ rngF i n (k + 1) = R at h ⊢
    unfold wtV wtK at h ⊢
    rw [wcv, List.length_append, List.length_singleton, show ((i + n : Nat) : Int) = (i : Int) + n from rfl] at h
    clear ih
    refine wcb wsd ?_
    unfold wud
    (repeat' (first | (simp -implicitDefEqProofs (maxSteps := 2000000) (disch := first | with_reducible assumption | omega | (simp only [zS, zA, seval, wxi, whb, zD] <;> omega) | fail) only [zS, argl, insA, Go.Den.wh, wo, wu, looks, wbb, wab, idOf, riA, seval, Go.Den.wm, kK, wwc, wmb, wyb, whb, *, zT]) | (with_reducible (first | apply z1 | apply z2 | apply z3 | apply z4) <;> intro hq <;> (try simp only [zH] at hq) <;> (try (exfalso; omega)))))
    all_goals exact h
set_option maxHeartbeats 4000000 in
theorem wt_both (s : List UInt8) (i a b run : Nat) (hr : i + run ≤ 12) (hb : b ≤ 8) : ∀ (k n : Nat) (W A : List Int), n + k = run + 1 → n ≤ b + 1 → 0 < A.length → A.length ≤ n → 0 < W.length → W.length ≤ n →
    lim Try.prog cfg (.loop 8 0 (wkb 1) (SE (EJ 142 G0) ((17, .int .i64 n) :: (16, wtV 2 A) :: (15, wtV 1 W) :: (14, .int .i64 run) :: wtF s i a b))) (HP [wtB, wtK W, wtK A])
      = some (.code (.exit 2) (SE (EJ 142 G0) ((16, wtV 2 (A ++ rngF i n k)) :: (15, wtV 1 (W ++ rngF i n (min k (b + 1 - n)))) :: wtF s i a b)), HP [wtB, wtK (W ++ rngF i n (min k (b + 1 - n))), wtK (A ++ rngF i n k)]) := by
  intro k
  induction k with
  | zero =>
    intro n W A hn hb2 h0 hA hW0 hW
    rw [Nat.zero_min, wvib, List.append_nil, List.append_nil]
    refine wcb wsd ?_
    unfold wud
    (repeat' (first | (simp -implicitDefEqProofs (maxSteps := 2000000) (disch := first | with_reducible assumption | omega | (simp only [zS, zA, seval, wxi, whb, zD] <;> omega) | fail) only [zS, argl, insA, Go.Den.wh, wo, wu, looks, wbb, wab, idOf, riA, seval, Go.Den.wm, kK, wwc, wmb, wyb, whb, *, zT]) | (with_reducible (first | apply z1 | apply z2 | apply z3 | apply z4) <;> intro hq <;> (try simp only [zH] at hq) <;> (try (exfalso; omega)))))
  | succ k ih =>
    intro n W A hn hb2 h0 hA hW0 hW
    by_cases hq : n ≤ b
    · have h := ih (n + 1) (W ++ [((i + n : Nat) : Int)]) (A ++ [((i + n : Nat) : Int)]) (by omega) (by omega) (by simp) (by rw [List.length_append, List.length_singleton]; omega) (by simp) (by rw [List.length_append, List.length_singleton]; omega)
      rw [List.append_assoc, List.append_assoc, List.singleton_append, ← wwib, List.singleton_append, ← wwib, show min k (b + 1 - (n + 1)) + 1 = min (k + 1) (b + 1 - n) by omega] at h
      generalize A ++ rngF i n (k + 1) = R at h ⊢
      generalize W ++ rngF i n (min (k + 1) (b + 1 - n)) = T at h ⊢
      unfold wtV wtK at h ⊢
      rw [wcv, List.length_append, List.length_singleton, wcv, List.length_append, List.length_singleton, show ((i + n : Nat) : Int) = (i : Int) + n from rfl] at h
      clear ih
      refine wcb wsd ?_
      unfold wud
      (repeat' (first | (simp -implicitDefEqProofs (maxSteps := 2000000) (disch := first | with_reducible assumption | omega | (simp only [zS, zA, seval, wxi, whb, zD] <;> omega) | fail) only [zS, argl, insA, Go.Den.wh, wo, wu, looks, wbb, wab, idOf, riA, seval, Go.Den.wm, kK, wwc, wmb, wyb, whb, *, zT]) | (with_reducible (first | apply z1 | apply z2 | apply z3 | apply z4) <;> intro hq <;> (try simp only [zH] at hq) <;> (try (exfalso; omega)))))
      all_goals exact h
    · have h := wt_any s i a b run hr hb W (k + 1) n A (by omega) (by omega) h0 hA
      rw [show min (k + 1) (b + 1 - n) = 0 by omega, wvib, List.append_nil]
      exact h
set_option maxHeartbeats 4000000 in
theorem wt_first (s : List UInt8) (i a b run : Nat) (hr : i + run ≤ 12) (hb : b ≤ 8) (hab : a ≤ b) (har : a ≤ run) :
    lim Try.prog cfg (.loop 8 0 (wkb 1) (SE (EJ 142 G0) ((17, .int .i64 a) :: (16, .slice none 0 0) :: (15, .slice none 0 0) :: (14, .int .i64 run) :: wtF s i a b))) (HP [wtB])
      = some (.code (.exit 2) (SE (EJ 142 G0) ((16, wtV 2 (rngF i a (run + 1 - a))) :: (15, wtV 1 (rngF i a (min (run + 1 - a) (b + 1 - a)))) :: wtF s i a b)), HP [wtB, wtK (rngF i a (min (run + 1 - a) (b + 1 - a))), wtK (rngF i a (run + 1 - a))]) := by
  have h := wt_both s i a b run hr hb (run - a) (a + 1) [((i + a : Nat) : Int)] [((i + a : Nat) : Int)] (by omega) (by omega) (by simp) (by simp) (by simp) (by simp)
  rw [List.singleton_append, List.singleton_append, ← wwib, ← wwib, show run - a + 1 = run + 1 - a by omega, show min (run - a) (b + 1 - (a + 1)) + 1 = min (run + 1 - a) (b + 1 - a) by omega] at h
  generalize rngF i a (run + 1 - a) = R at h ⊢
  generalize rngF i a (min (run + 1 - a) (b + 1 - a)) = T at h ⊢
  unfold wtV wtK at h ⊢
  rw [show ints [((i + a : Nat) : Int)] = [.int .i64 ((i : Int) + a)] from rfl, show ([((i + a : Nat) : Int)] : List Int).length = 1 from rfl, show ((a + 1 : Nat) : Int) = (a : Int) + 1 from rfl] at h
  refine wcb wsd ?_
  unfold wud
  (repeat' (first | (simp -implicitDefEqProofs (maxSteps := 2000000) (disch := first | with_reducible assumption | omega | (simp only [zS, zA, seval, wxi, whb, zD] <;> omega) | fail) only [zS, argl, insA, Go.Den.wh, wo, wu, looks, wbb, wab, idOf, riA, seval, Go.Den.wm, kK, wwc, wmb, wyb, whb, *, zT]) | (with_reducible (first | apply z1 | apply z2 | apply z3 | apply z4) <;> intro hq <;> (try simp only [zH] at hq) <;> (try (exfalso; omega)))))
  all_goals exact h
theorem wt_none (s : List UInt8) (i a b run : Nat) (hr : i + run ≤ 12) (hb : b ≤ 8) (hab : a ≤ b) (har : run < a) :
    lim Try.prog cfg (.loop 8 0 (wkb 1) (SE (EJ 142 G0) ((17, .int .i64 a) :: (16, .slice none 0 0) :: (15, .slice none 0 0) :: (14, .int .i64 run) :: wtF s i a b))) (HP [wtB])
      = some (.code (.exit 2) (SE (EJ 142 G0) ((16, .slice none 0 0) :: (15, .slice none 0 0) :: wtF s i a b)), HP [wtB]) := by
  refine wcb wsd ?_
  unfold wud
  (repeat' (first | (simp -implicitDefEqProofs (maxSteps := 2000000) (disch := first | with_reducible assumption | omega | (simp only [zS, zA, seval, wxi, zD] <;> omega) | fail) only [zS, argl, insA, Go.Den.wh, wo, wu, looks, wbb, wab, idOf, riA, seval, Go.Den.wm, kK, wwc, wmb, wyb, *, zT]) | (with_reducible (first | apply z1 | apply z2 | apply z3 | apply z4) <;> intro hq <;> (try simp only [zH] at hq) <;> (try (exfalso; omega)))))
theorem wavb : (EJ 142 G0).get 8 = JK := rfl
theorem falls_at {xs : List St} (h : (atL xs).Pairwise (· > ·)) {n : Nat} (h0 : 0 < n) (hn : n < xs.length) : (xs.getD n St.zero).1 < (xs.getD (n - 1) St.zero).1 := by
  have h1 : ∀ j (hj : j < xs.length), (atL xs)[j]'(by rw [wht]; exact hj) = (xs.getD j St.zero).1 := fun j hj => by
    rw [st_get hj]
    unfold atL
    rw [List.getElem_map]
  have := List.pairwise_iff_getElem.1 h (n - 1) n (by rw [wht]; omega) (by rw [wht]; exact hn) (by omega)
  rw [h1 n hn, h1 (n - 1) (by omega)] at this
  exact this
set_option maxHeartbeats 4000000 in
theorem wt_waysF (s : List UInt8) (i a b : Nat) (W A : List Int) (xs : List St) (hl : xs.length ≤ 100) (hx : ∀ x ∈ xs, 0 ≤ x.1 ∧ x.1 ≤ 12) (hf : ∀ n, 0 < n → n < xs.length → (xs.getD n St.zero).1 < (xs.getD (n - 1) St.zero).1) : ∀ (k n : Nat), n + k = xs.length →
    lim Try.prog cfg (.loop 8 0 (wkb 2) (SE (EJ 142 G0) ((92, .int .i64 n) :: (91, .int .i64 xs.length) :: (90, FL xs.length (stsC xs)) :: (18, FL xs.length (stsC xs)) :: (16, wtV 2 A) :: (15, wtV 1 W) :: wtF s i a b))) (HP [wtB, wtK W, wtK A])
      = some (.code (.exit 4) (SE (EJ 142 G0) ((18, FL xs.length (stsC xs)) :: (16, wtV 2 A) :: (15, wtV 1 W) :: (wtF s i a b ++ [(8, JK)]))), HP [wtB, wtK W, wtK A]) := by
  intro k
  induction k with
  | zero =>
    intro n hn
    clear hx hf
    simp only [wtF, List.cons_append, List.nil_append]
    refine wcb wtd ?_
    unfold wvd
    (repeat' (first | (simp -implicitDefEqProofs (maxSteps := 2000000) (disch := first | with_reducible assumption | omega | (simp only [zS, zA, seval, wfo, wxi, wpb, wic, zD] <;> omega) | fail) only [zS, argl, insA, Go.Den.wh, wo, wu, looks, wbb, wab, idOf, riA, seval, Go.Den.wm, kK, wxc, wmb, wyb, wpb, wic, wavb, *, zT]) | (with_reducible (first | apply z1 | apply z2 | apply z3 | apply z4) <;> intro hq <;> (try simp only [zH] at hq) <;> (try (exfalso; omega))) | (with_reducible apply z5; (case hl => (repeat (first | exact .nil | with_reducible apply z6 | with_reducible apply z7))); (case h => kernel_rfl))))
  | succ k ih =>
    intro n hn
    have hlt : n < xs.length := by omega
    have h := ih (n + 1) (by omega)
    have hsl := wkm (l := xs) (i := n) hlt
    simp only [wtF, List.cons_append, List.nil_append] at h ⊢
    by_cases h0 : n = 0
    · subst h0
      rw [Nat.zero_mul] at hsl
      rw [show ((0 + 1 : Nat) : Int) = 1 from rfl] at h
      rw [show ((0 : Nat) : Int) = 0 from rfl]
      generalize xs.getD 0 St.zero = x at *
      clear ih hx hf
      refine wcb wtd ?_
      unfold wvd
      (repeat' (first | (simp -implicitDefEqProofs (maxSteps := 2000000) (disch := first | with_reducible assumption | omega | (simp only [zS, zA, seval, wfo, wxi, wpb, wic, zD] <;> omega) | fail) only [zS, argl, insA, Go.Den.wh, wo, wu, looks, wbb, wab, idOf, riA, seval, Go.Den.wm, kK, wxc, wmb, wyb, wpb, wic, wavb, *, zT]) | (with_reducible (first | apply z1 | apply z2 | apply z3 | apply z4) <;> intro hq <;> (try simp only [zH] at hq) <;> (try (exfalso; omega))) | (with_reducible apply z5; (case hl => (repeat (first | exact .nil | with_reducible apply z6 | with_reducible apply z7))); (case h => kernel_rfl))))
      all_goals exact h
    · have hlt2 := hf n (by omega) hlt
      have hsl2 := wkm (l := xs) (i := n - 1) (by omega)
      have e1 : ((n : Int) - 1).toNat = n - 1 := by omega
      have hsl3 : (stsC xs)[(n - 1) * 9]? = some (.int .i64 (xs.getD (n - 1) St.zero).1) := by
        have h9 := congrArg (fun l : List Value => l[0]?) hsl2
        simp only [slotsOf, List.getElem?_take, List.getElem?_drop] at h9
        rw [if_pos (by omega), Nat.add_zero] at h9
        rw [h9]; rfl
      generalize xs.getD n St.zero = x at *
      generalize xs.getD (n - 1) St.zero = y at *
      clear ih hx hf
      refine wcb wtd ?_
      unfold wvd
      (repeat' (first | (simp -implicitDefEqProofs (maxSteps := 2000000) (disch := first | with_reducible assumption | omega | (simp only [zS, zA, seval, wfo, wxi, wpb, wic, zD] <;> omega) | fail) only [zS, argl, insA, Go.Den.wh, wo, wu, looks, wbb, wab, idOf, riA, seval, Go.Den.wm, kK, wxc, wmb, wyb, wpb, wic, wavb, *, zT]) | (with_reducible (first | apply z1 | apply z2 | apply z3 | apply z4) <;> intro hq <;> (try simp only [zH] at hq) <;> (try (exfalso; omega))) | (with_reducible apply z5; (case hl => (repeat (first | exact .nil | with_reducible apply z6 | with_reducible apply z7))); (case h => kernel_rfl))))
      all_goals exact h
set_option maxHeartbeats 4000000 in
theorem wt_waysN (s : List UInt8) (i a b : Nat) (xs : List St) (hl : xs.length ≤ 100) (hx : ∀ x ∈ xs, 0 ≤ x.1 ∧ x.1 ≤ 12) (hf : ∀ n, 0 < n → n < xs.length → (xs.getD n St.zero).1 < (xs.getD (n - 1) St.zero).1) : ∀ (k n : Nat), n + k = xs.length →
    lim Try.prog cfg (.loop 8 0 (wkb 2) (SE (EJ 142 G0) ((92, .int .i64 n) :: (91, .int .i64 xs.length) :: (90, FL xs.length (stsC xs)) :: (18, FL xs.length (stsC xs)) :: (16, .slice none 0 0) :: (15, .slice none 0 0) :: wtF s i a b))) (HP [wtB])
      = some (.code (.exit 4) (SE (EJ 142 G0) ((18, FL xs.length (stsC xs)) :: (16, .slice none 0 0) :: (15, .slice none 0 0) :: (wtF s i a b ++ [(8, JK)]))), HP [wtB]) := by
  intro k
  induction k with
  | zero =>
    intro n hn
    clear hx hf
    simp only [wtF, List.cons_append, List.nil_append]
    refine wcb wtd ?_
    unfold wvd
    (repeat' (first | (simp -implicitDefEqProofs (maxSteps := 2000000) (disch := first | with_reducible assumption | omega | (simp only [zS, zA, seval, wfo, wxi, wpb, wic, zD] <;> omega) | fail) only [zS, argl, insA, Go.Den.wh, wo, wu, looks, wbb, wab, idOf, riA, seval, Go.Den.wm, kK, wxc, wmb, wyb, wpb, wic, wavb, *, zT]) | (with_reducible (first | apply z1 | apply z2 | apply z3 | apply z4) <;> intro hq <;> (try simp only [zH] at hq) <;> (try (exfalso; omega))) | (with_reducible apply z5; (case hl => (repeat (first | exact .nil | with_reducible apply z6 | with_reducible apply z7))); (case h => kernel_rfl))))
  | succ k ih =>
    intro n hn
    have hlt : n < xs.length := by omega
    have h := ih (n + 1) (by omega)
    have hsl := wkm (l := xs) (i := n) hlt
    simp only [wtF, List.cons_append, List.nil_append] at h ⊢
    by_cases h0 : n = 0
    · subst h0
      rw [Nat.zero_mul] at hsl
      rw [show ((0 + 1 : Nat) : Int) = 1 from rfl] at h
      rw [show ((0 : Nat) : Int) = 0 from rfl]
      generalize xs.getD 0 St.zero = x at *
      clear ih hx hf
      refine wcb wtd ?_
      unfold wvd
      (repeat' (first | (simp -implicitDefEqProofs (maxSteps := 2000000) (disch := first | with_reducible assumption | omega | (simp only [zS, zA, seval, wfo, wxi, wpb, wic, zD] <;> omega) | fail) only [zS, argl, insA, Go.Den.wh, wo, wu, looks, wbb, wab, idOf, riA, seval, Go.Den.wm, kK, wxc, wmb, wyb, wpb, wic, wavb, *, zT]) | (with_reducible (first | apply z1 | apply z2 | apply z3 | apply z4) <;> intro hq <;> (try simp only [zH] at hq) <;> (try (exfalso; omega))) | (with_reducible apply z5; (case hl => (repeat (first | exact .nil | with_reducible apply z6 | with_reducible apply z7))); (case h => kernel_rfl))))
      all_goals exact h
    · have hlt2 := hf n (by omega) hlt
      have hsl2 := wkm (l := xs) (i := n - 1) (by omega)
      have e1 : ((n : Int) - 1).toNat = n - 1 := by omega
      have hsl3 : (stsC xs)[(n - 1) * 9]? = some (.int .i64 (xs.getD (n - 1) St.zero).1) := by
        have h9 := congrArg (fun l : List Value => l[0]?) hsl2
        simp only [slotsOf, List.getElem?_take, List.getElem?_drop] at h9
        rw [if_pos (by omega), Nat.add_zero] at h9
        rw [h9]; rfl
      generalize xs.getD n St.zero = x at *
      generalize xs.getD (n - 1) St.zero = y at *
      clear ih hx hf
      refine wcb wtd ?_
      unfold wvd
      (repeat' (first | (simp -implicitDefEqProofs (maxSteps := 2000000) (disch := first | with_reducible assumption | omega | (simp only [zS, zA, seval, wfo, wxi, wpb, wic, zD] <;> omega) | fail) only [zS, argl, insA, Go.Den.wh, wo, wu, looks, wbb, wab, idOf, riA, seval, Go.Den.wm, kK, wxc, wmb, wyb, wpb, wic, wavb, *, zT]) | (with_reducible (first | apply z1 | apply z2 | apply z3 | apply z4) <;> intro hq <;> (try simp only [zH] at hq) <;> (try (exfalso; omega))) | (with_reducible apply z5; (case hl => (repeat (first | exact .nil | with_reducible apply z6 | with_reducible apply z7))); (case h => kernel_rfl))))
      all_goals exact h
theorem AB_ne : AB ≠ 0#256 := by unfold AB; decide +kernel
theorem rep_lit {lo hi : Int} : rxC (repX lo hi AB) = [.int .i64 4, .int .i64 lo, .int .i64 hi, .int .i64 0, .int .u64 0, .int .u64 0, .int .u64 0, .int .u64 0, FL 1 (rxF0 (one 97 ||| one 98))] := by rw [rx_lit1, rx_lit0]
theorem wlfc (n : Int) : 0 ≤ wdj n 0 4 ∧ wdj n 0 4 ≤ 4 := wuib n 4 (by omega)
set_option maxRecDepth 100000 in
set_option maxHeartbeats 16000000 in
theorem winb (text : List Int) (lo hi at' : Int) : lim Try.prog cfg (.call 8 [FL text.length (ints text), .int .i64 lo, .int .i64 hi, .int .i64 at']) (HP []) = some (.val (.bool true), HP []) := by
  have h1 := ev_Text text 9 (by omega)
  have hs := wafc text 9
  generalize textF text 9 = s at *
  rw [show ((9 : Nat) : Int) = 9 from rfl] at h1
  have hw := wwu at' 0 s.length (by omega) (by omega) (by omega)
  have hwi := wuib at' s.length (by omega)
  obtain ⟨i, hi'⟩ : ∃ i : Nat, wdj at' 0 s.length = i := ⟨_, (Int.toNat_of_nonneg hwi.1).symm⟩
  rw [hi'] at hw hwi
  clear hi'
  have hi0 : i ≤ s.length := by omega
  have hwa := wwu lo 0 4 (by omega) (by omega) (by omega)
  have hai := wlfc lo
  obtain ⟨a, ha'⟩ : ∃ a : Nat, wdj lo 0 4 = a := ⟨_, (Int.toNat_of_nonneg hai.1).symm⟩
  rw [ha'] at hwa hai
  clear ha'
  have hwb := wwu hi 0 4 (by omega) (by omega) (by omega)
  have hbi := wlfc hi
  obtain ⟨c, hc'⟩ : ∃ c : Nat, wdj hi 0 4 = c := ⟨_, (Int.toNat_of_nonneg hbi.1).symm⟩
  rw [hc'] at hwb hbi
  clear hc'
  obtain ⟨b, hb⟩ : ∃ b : Nat, max (a : Int) 1 + c = b := ⟨(max (a : Int) 1 + c).toNat, by omega⟩
  have hb8 : b ≤ 8 := by omega
  have hab : a ≤ b := by omega
  have hb1 : 1 ≤ b := by omega
  have ho := ev_Of2 97 98 (by omega) (by omega)
  rw [show ((97 : Nat) : Int) = 97 from rfl, show ((98 : Nat) : Int) = 98 from rfl] at ho
  have hrun := runX_len (S := AB) (s.drop i)
  rw [List.length_drop] at hrun
  have l0 := wt_run s (by omega) i a b (s.drop i) 0 rfl (by omega)
  rw [Nat.zero_add, show ((0 : Nat) : Int) = 0 from rfl] at l0
  have R1 := wyib AB_ne (lo := a) (hi := b) (by omega) (by omega) (.inr (by omega))
  have R2 := wyib AB_ne (lo := a) (hi := -1) (by omega) (by omega) (.inl rfl)
  have t1 : topX AB b (s.drop i) 0 = min (runX AB (s.drop i)) b := by rw [topX_max _ 0 (by omega), Nat.zero_add]
  have t2 : topX AB (-1) (s.drop i) 0 = runX AB (s.drop i) := by rw [topX_any (by decide), Nat.zero_add]
  have len1 := wkfc s (by omega) AB a b i R1 hi0
  have len2 := wkfc s (by omega) AB a (-1) i R2 hi0
  have f1 := wxib s (by omega) AB a b i R1 hi0
  have f2 := wxib s (by omega) AB a (-1) i R2 hi0
  have w1 := wwec (repX a b AB) wyz s (by omega) true i
  have E1 := wopb (repX a b AB) wyz s (by omega) true i (by omega) f1
  have E2 := wopb (repX a (-1) AB) wyz s (by omega) true i (by omega) f2
  rw [wcfb s (by omega) AB a b i R1 hi0, wht, len1] at E1
  rw [wcfb s (by omega) AB a (-1) i R2 hi0, wht, len2] at E2
  have hrow := wtub (r := repX a b AB) (s := s) (bol := true) (a := i)
  have hx : ∀ x ∈ wpg (repX a b AB) s true i, 0 ≤ x.1 ∧ x.1 ≤ 12 := fun x hx => by
    have h := (hrow.good x hx).1
    have := h.lo; have := h.hi; omega
  have hf : ∀ n, 0 < n → n < (wpg (repX a b AB) s true i).length → ((wpg (repX a b AB) s true i).getD n St.zero).1 < ((wpg (repX a b AB) s true i).getD (n - 1) St.zero).1 := fun n h0 hn => falls_at f1 h0 hn
  rw [t1] at len1 E1
  rw [t2] at E2
  rw [rep_lit] at w1 E1 E2
  clear hrow f1 f2 R1 R2 len2 t1 t2
  generalize runX AB (s.drop i) = run at *
  by_cases har : a ≤ run
  · have l1 := wt_first s i a b run (by omega) hb8 hab har
    have eW : min (run + 1 - a) (b + 1 - a) = min run b + 1 - a := by omega
    rw [eW] at l1
    have l2 := wt_waysF s i a b (rngF i a (min run b + 1 - a)) (rngF i a (run + 1 - a)) (wpg (repX a b AB) s true i) (by omega) hx hf (wpg (repX a b AB) s true i).length 0 (by omega)
    have s1 := wafb (rngF i a (min run b + 1 - a)) (by rw [wdv]; omega)
    have s2 := wafb (rngF i a (run + 1 - a)) (by rw [wdv]; omega)
    have r1 := wdv (i := i) (lo := a) (n := min run b + 1 - a)
    have r2 := wdv (i := i) (lo := a) (n := run + 1 - a)
    rw [show ((0 : Nat) : Int) = 0 from rfl] at l2
    simp only [wtV, wtK, wtF, List.cons_append, List.nil_append] at l0 l1 l2
    rw [r1] at l1 l2 s1
    rw [r2] at l1 l2 s2
    have hm0 : 0 < min run b + 1 - a := by omega
    have hm1 : 0 < run + 1 - a := by omega
    have hm2 : min run b + 1 - a ≤ 12 := by omega
    have hm3 : run + 1 - a ≤ 12 := by omega
    generalize wpg (repX a b AB) s true i = xs at *
    generalize rngF i a (min run b + 1 - a) = W at *
    generalize rngF i a (run + 1 - a) = A at *
    generalize min run b + 1 - a = nW at *
    generalize run + 1 - a = nA at *
    clear hx hf hai hbi hwi
    rw [len1] at l2 w1
    clear len1
    have hcl1 : (ints W).length = nW := by rw [whb, r1]
    have hcl2 : (ints A).length = nA := by rw [whb, r2]
    refine wub hc wlk (Nat.le_of_ble_eq_true rfl) (Nat.le_of_ble_eq_true rfl) ?_
    unfold wcj
    (repeat' (first | (simp -implicitDefEqProofs (maxSteps := 2000000) (disch := first | with_reducible assumption | omega | (simp only [zS, zA, seval, wfo, wxi, whb, nfX_X, wpb, wic, zD] <;> omega) | fail) only [zS, argl, insA, Go.Den.wh, wo, wu, looks, wbb, wab, idOf, riA, seval, Go.Den.wm, kK, wie, wwc, wxc, wmb, wyb, whb, wtib, wpb, wic, wmib, nfX_X, rowT_X, wlib, *, zT]) | (with_reducible (first | apply z1 | apply z2 | apply z3 | apply z4) <;> intro hq <;> (try simp only [zH] at hq) <;> (try (exfalso; omega)))))
  · have l1 := wt_none s i a b run (by omega) hb8 hab (by omega)
    have l2 := wt_waysN s i a b (wpg (repX a b AB) s true i) (by omega) hx hf (wpg (repX a b AB) s true i).length 0 (by omega)
    have s1 := wafb [] (by simp)
    rw [show ([] : List Int).length = 0 from rfl, show ints [] = [] from rfl] at s1
    rw [show min run b + 1 - a = 0 by omega, wvib, show ints [] = [] from rfl] at E1
    rw [show run + 1 - a = 0 by omega, wvib, show ints [] = [] from rfl] at E2
    have hxl : (wpg (repX a b AB) s true i).length = 0 := by omega
    have hxn : wpg (repX a b AB) s true i = [] := List.eq_nil_of_length_eq_zero hxl
    rw [hxn] at l2 w1
    rw [show ([] : List St).length = 0 from rfl, show stsC [] = [] from rfl, show ((0 : Nat) : Int) = 0 from rfl] at l2
    rw [show ([] : List St).length = 0 from rfl, show stsC [] = [] from rfl] at w1
    simp only [wtF, List.cons_append, List.nil_append] at l0 l1 l2
    clear hx hf hai hbi hwi hxl hxn len1
    refine wub hc wlk (Nat.le_of_ble_eq_true rfl) (Nat.le_of_ble_eq_true rfl) ?_
    unfold wcj
    (repeat' (first | (simp -implicitDefEqProofs (maxSteps := 2000000) (disch := first | with_reducible assumption | omega | (simp only [zS, zA, seval, wfo, wxi, whb, nfX_X, wpb, wic, zD] <;> omega) | fail) only [zS, argl, insA, Go.Den.wh, wo, wu, looks, wbb, wab, idOf, riA, seval, Go.Den.wm, kK, wie, wwc, wxc, wmb, wyb, whb, wtib, wpb, wic, wmib, nfX_X, rowT_X, wlib, *, zT]) | (with_reducible (first | apply z1 | apply z2 | apply z3 | apply z4) <;> intro hq <;> (try simp only [zH] at hq) <;> (try (exfalso; omega)))))
end
end Go.Proofs.Ytjihbfdbgamcdaa
namespace Go.Den
noncomputable section
open Go.ChangeShapes Go.WideShapes Go.RowKit
variable {P : Program} {cfg : Cfg} {H : Type} {enc : TypeId × Value → H}
theorem known_ev (wck : wqj P cfg.glob cfg.know) (hm : P.follows .mixedOrders = true) {f : FuncId} {a : List Value} {v : Value} (h : Ev P cfg (.call f a) AH0 (.val v, AH0)) (ha : wlb a = true) (hv : wnf v = true) : wbm P cfg.glob f a v := by
  obtain ⟨n, h⟩ := h
  exact wqq wck hm (h n (Nat.le_refl n)) ha hv
def renW (w : World) : Ren := ⟨fun _ _ => none, fun b i => w.cell? ⟨b, i, none⟩⟩
theorem wmfc (wck : wqj P cfg.glob cfg.know) (hm : P.follows .mixedOrders = true) (hg : cfg.glob = fun _ => none) {f : FuncId} {a : List Value} (h : Ev P cfg (.call f a) AH0 (.val (.bool true), AH0)) (ha : wlb a = true) (w : World) (args' : Array Value) (hA : VRL (renW w) a args'.toList) :
    Calls P f args' w fun e w' => e = .returned (.bool true) ∧ w.heap.size ≤ w'.heap.size ∧ (∀ b : Nat, b < w.heap.size → w'.heap[b]? = w.heap[b]?) ∧ w'.os = w.os ∧ w'.output = w.output := by
  refine (known_ev wck hm h ha rfl (renW w) w args' (fun _ _ _ h => h) (by rw [hg]; exact gok_none _) hA).mono ?_
  rintro e w' ⟨ρ', v', rfl, h1, _, _, _, _, h5, h2, h3, h4⟩
  rw [h1.bool_inv]
  exact ⟨rfl, h5, h2, h3, h4⟩
theorem same_at {W W' : World} (hb : ∀ b : Nat, b < W.heap.size → W'.heap[b]? = W.heap[b]?) {p : MemPlace} (hp : p.block < W.heap.size) : W.sameAt W' p := by
  cases p with
  | cell b o => exact World.cell?_of_block (w := W) (hb b hp)
  | map b => exact hb b hp
theorem wdfb (hl : laidOutB P = true) {W W' : World} (hb : ∀ b : Nat, b < W.heap.size → W'.heap[b]? = W.heap[b]?) {sp : Nat → Bool} : ∀ (ts : List TypeId) (vs : List Value) (ds : List (DataW H)) (ps : List MemPlace), (ts.all fun t => P.readableRec t && decide (t < P.types.size)) = true →
    DataW.TrodAll enc P W 0 (fun _ => true) true ts vs ds ps → (∀ p ∈ ps, p.block < W.heap.size) → (∀ p ∈ ps, sp p.block = true) → DataW.TrodAll enc P W' 0 sp true ts vs ds ps := by
  intro ts
  induction ts with
  | nil =>
    intro vs ds ps _ h _ _
    obtain ⟨rfl, rfl, rfl⟩ := trodAll_nil h
    exact trodAll_mk0
  | cons t ts ih =>
    intro vs ds ps ht h hlt hs
    obtain ⟨v, vs', d, ds', p, q, rfl, rfl, rfl, h0, h1⟩ := trodAll_cons h
    simp only [List.all_cons, Bool.and_eq_true, decide_eq_true_eq] at ht
    exact trodAll_cons_mk (WideElems.Trod_stays hl ht.1.1 ht.1.2 h0 (fun x hx => same_at hb (hlt x (List.mem_append_left _ hx))) (fun x hx => hs x (List.mem_append_left _ hx)))
      (ih vs' ds' q (by simpa using ht.2) h1 (fun x hx => hlt x (List.mem_append_right _ hx)) (fun x hx => hs x (List.mem_append_right _ hx)))
theorem law_post (hl : laidOutB P = true) {f : Func} {s : ChangeSpec} {apart fresh handsOn : Bool} {W W' : World} {args : Array Value} {ds gs : List (DataW H)} {before : List MemPlace}
    (hW : DataW.Whole enc P f.params.toList s.vars apart W args.toList ds gs before) (hvars : s.vars = []) (hbool : ∃ t, f.resultTypes = #[t] ∧ P.underlying t = some .bool)
    (hts : (f.params.toList.all fun t => P.readableRec t && decide (t < P.types.size)) = true)
    (hfn : s.fn H (ds ++ gs) = { results := [.lit (.bool true)], args := ds })
    (hs : ∀ b : Nat, b < W.heap.size → W'.heap[b]? = W.heap[b]?) (ho : W'.os = W.os) (hp : W'.output = W.output) : s.post enc P f apart fresh handsOn false W args (.bool true) W' := by
  have hW' := hW
  obtain ⟨p, q, hA, hV, rfl, hfz, hnd⟩ := hW
  rw [hvars] at hV
  obtain ⟨rfl, rfl⟩ := trodVars_none hV
  obtain ⟨t, ht, hu⟩ := hbool
  refine wsxb (pa := p) (pv := []) hW' (fun b sp hd => ?_) (fun sp hsp => ?_) (fun sp _ => ?_) rfl (kept_of hs ho hp)
  · rw [ht, hfn]
    exact trodAll_cons_mk (shut_bool hu _) trodAll_mk0
  · rw [hfn]
    exact wdfb hl hs _ _ _ _ hts hA (fun x hx => hW'.lt x (List.mem_append_left _ hx)) (fun x hx => hsp x (List.mem_append_left _ hx))
  · rw [hfn, hvars]
    exact rfl
end
end Go.Den
namespace Go.Den
noncomputable section
open Go.ChangeShapes Go.WideShapes Go.RowKit
variable {P : Program} {H : Type} {enc : TypeId × Value → H}
theorem row_VR {W : World} {t e : TypeId} {k : IntKind} (ht : P.underlying t = some (.slice e)) (he : P.underlying e = some (.int k)) (hc : P.cellsOf e = 1) {r : Reach} {b0 base fuel : Nat} {sp : Nat → Bool} {held : Bool} {v : Value} {x : DataW H × List MemPlace}
    (hval : Cell.okWide P W r b0 t v) (hf : DataW.trod enc P W base sp held fuel t [v] = some x) : ∃ l : List Int, VR (renW W) (FL l.length (l.map (Value.int k))) v := by
  rcases open_ints ht he hc hf with ⟨hcs, _⟩ | ⟨a, len, cap, zs, hcs, _, hl, hm, hz, _, hcell, _⟩
  · cases hcs
    exact ⟨[], .listNo⟩
  · cases hcs
    have hsp : a.spot = none := by
      simp only [Cell.okWide, ht, Cell.ok] at hval
      exact hval.2.2.2.1
    obtain ⟨blk, off, spot⟩ := a
    subst hsp
    have hlz : len ≤ zs.length := by rw [hz]; split <;> omega
    have hlen : (zs.take len).length = len := by rw [List.length_take]; omega
    refine ⟨zs.take len, ?_⟩
    rw [hlen]
    refine VR.list (a' := ⟨blk, off, none⟩) hl (fun i => .int k (zs.getD i 0)) (fun i hi => ?_) (fun i v hv => ?_)
    · rw [List.length_map, hlen] at hi
      have := hcell i (by omega)
      rw [show (⟨blk, off, none⟩ : Addr).add i = ⟨blk, off + i, none⟩ by unfold Addr.add; split <;> simp_all] at this
      exact this
    · rw [List.getElem?_map] at hv
      have hi : i < len := by
        have := (List.getElem?_eq_some_iff.1 (show ((zs.take len).map (Value.int k))[i]? = some v by rw [List.getElem?_map]; exact hv)).1
        rw [List.length_map, hlen] at this; exact this
      rw [List.getElem?_take, if_pos hi, List.getElem?_eq_getElem (by omega)] at hv
      cases hv
      rw [List.getD_eq_getElem?_getD, List.getElem?_eq_getElem (by omega)]
      exact .flat rfl
theorem wnfc {W : World} {t e : TypeId} {k : IntKind} (ht : P.underlying t = some (.slice e)) (he : P.underlying e = some (.int k)) (hc : P.cellsOf e = 1) {r : Reach} {b0 base : Nat} {sp : Nat → Bool} {held : Bool} {v : Value} {d : DataW H} {ps : List MemPlace}
    (hval : Value.okWide P W r b0 t v) (hd : DataW.Trod enc P W base sp held t v d ps) : ∃ l : List Int, VR (renW W) (FL l.length (l.map (Value.int k))) v := by
  obtain ⟨a, len, cap, rfl⟩ := okWide_slice ht hval
  obtain ⟨fuel, hf⟩ := hd
  simp only [Value.okWide, ht] at hval
  exact row_VR ht he hc hval hf
end
end Go.Den
