/-
  PARTS OF A PROOF, joined by a program (8 of 8): a proved reckoner of the model, and what the functions come to.
-/
import Derived.Test.YtjihbfdbgamcdaaQWayLaws7
import Derived.ChangeSame
import Derived.WideKeyArgs
import Derived.OpenShut
import Derived.WideKeyPair
import Derived.ChangeSlices
set_option linter.unusedVariables false
set_option linter.unusedSimpArgs false
namespace Go.Proofs.Ytjihbfdbgamcdaa
set_option linter.unusedVariables false
set_option linter.unusedSimpArgs false
open Go.Den
noncomputable section
def insJ : Nat → List Int → List Int
 | 0, l => l
 | j + 1, l => if l.getD (j + 1) 0 < l.getD j 0 then insJ j ((l.set (j + 1) (l.getD j 0)).set j (l.getD (j + 1) 0)) else l
def wwt : Nat → Nat → List Int → List Int
 | 0, _, l => l
 | k + 1, i, l => wwt k (i + 1) (insJ i l)
theorem wjy : ∀ (j : Nat) (l : List Int), (insJ j l).length = l.length := by
 intro j
 induction j with
 | zero => intro l; rfl
 | succ j ih => intro l; rw [insJ]; split; (rw [ih, List.length_set, List.length_set]); rfl
theorem wvfb : ∀ (k i : Nat) (l : List Int), (wwt k i l).length = l.length := by
 intro k
 induction k with
 | zero => intro i l; rfl
 | succ k ih => intro i l; rw [wwt, ih, wjy]
def weq (l : List Int) : List Int := wwt (l.length - 1) 1 l
theorem wky (l : List Int) : (weq l).length = l.length := wvfb _ _ _
def wsq (x : Int) : List Int → List Int
 | [] => [x]
 | y :: R => if x < y then y :: wsq x R else x :: y :: R
theorem wytb (A B : List Int) (x : Int) : (A ++ x :: B).getD A.length 0 = x := by
 rw [List.getD_eq_getElem?_getD, List.getElem?_append_right (Nat.le_refl _), Nat.sub_self]; rfl
theorem insJ_rev : ∀ (R : List Int) (x : Int) (B : List Int), insJ R.length (R.reverse ++ x :: B) = (wsq x R).reverse ++ B := by
 intro R
 induction R with
 | nil => intro x B; rfl
 | cons y R ih =>
  intro x B
  have hl : R.reverse.length = R.length := List.length_reverse
  have e1 : ((y :: R).reverse ++ x :: B) = R.reverse ++ y :: x :: B := by rw [List.reverse_cons, List.append_assoc]; rfl
  have g0 : (R.reverse ++ y :: x :: B).getD R.length 0 = y := by have := wytb R.reverse (x :: B) y; rwa [hl] at this
  have g1 : (R.reverse ++ y :: x :: B).getD (R.length + 1) 0 = x := by
   have := wytb (R.reverse ++ [y]) B x
   rw [List.length_append, hl, List.append_assoc] at this
   exact this
  rw [List.length_cons, insJ, e1, g0, g1, wsq]
  by_cases hq : x < y
  ·rw [if_pos hq, if_pos hq]
   have s1 : ((R.reverse ++ y :: x :: B).set (R.length + 1) y).set R.length x = R.reverse ++ x :: y :: B := by
    rw [List.set_append_right _ _ (by omega), hl, show R.length + 1 - R.length = 1 by omega, List.set_append_right _ _ (by omega), hl, Nat.sub_self]; rfl
   rw [s1, ih x (y :: B), List.reverse_cons, List.append_assoc]; rfl
  ·rw [if_neg hq, if_neg hq, List.reverse_cons, List.reverse_cons, List.append_assoc, List.append_assoc]; rfl
theorem wmzb : ∀ (B R : List Int), wwt B.length R.length (R.reverse ++ B) = (B.foldl (fun R x => wsq x R) R).reverse := by
 intro B
 induction B with
 | nil => intro R; rw [wwt.eq_def]; simp
 | cons x B ih =>
  intro R
  rw [List.length_cons, wwt, insJ_rev, List.foldl_cons]
  have hl : (wsq x R).length = R.length + 1 := by
   have : ∀ (R : List Int), (wsq x R).length = R.length + 1 := by
    intro R
    induction R with
    | nil => rfl
    | cons y R ih => rw [wsq]; split; (rw [List.length_cons, ih, List.length_cons]); rfl
   exact this R
  have := ih (wsq x R)
  rw [hl] at this
  exact this
theorem wumb (l : List Int) : weq l = (l.foldl (fun R x => wsq x R) []).reverse := by
 cases l with
 | nil => rfl
 | cons x l =>
  unfold weq
  have := wmzb l [x]
  exact this
theorem wnzb : ∀ (R : List Int) (x : Int), (∀ y ∈ R, x < y) → wsq x R = R ++ [x] := by
 intro R
 induction R with
 | nil => intro x _; rfl
 | cons y R ih => intro x h; rw [wsq, if_pos (h y (List.mem_cons_self ..)), ih x fun z hz => h z (List.mem_cons_of_mem _ hz)]; rfl
theorem wmkc : ∀ (l R : List Int), (R ++ l).Pairwise (· > ·) → l.foldl (fun R x => wsq x R) R = R ++ l := by
 intro l
 induction l with
 | nil => intro R _; rw [List.append_nil]; rfl
 | cons x l ih =>
  intro R h
  rw [List.foldl_cons, wnzb R x (fun y hy => (List.pairwise_append.1 h).2.2 y hy x (List.mem_cons_self ..)), ih (R ++ [x]) (by rw [List.append_assoc]; exact h), List.append_assoc]; rfl
theorem wozb {l : List Int} (h : l.Pairwise (· > ·)) : weq l = l.reverse := by
 rw [wumb, wmkc l [] h, List.nil_append]
abbrev slV (n : Nat) : Value := .slice (some ⟨0, 0, some 0⟩) n 0
abbrev yB (l : List Int) : List ABlk := [Y (ints l) 3 1 [l.length] 0]
theorem rY {N : Nat} (h : 0 < N) : refs (slV N) = [(0, 0)] ∧ ∀ m, renV m (slV N) = .slice (some ⟨(m 0 0).1, 0, some (m 0 0).2⟩) N 0 := ⟨wgd h, fun _ => wfe h⟩
theorem ints_set {l : List Int} {i : Nat} {a : Int} : (ints l).set i (.int .i64 a) = ints (l.set i a) := by
 unfold ints; rw [List.map_set]
theorem wzl {l : List Int} : wqb (ints l) = true := by
 induction l with
 | nil => rfl
 | cons a l ih => show (wmf (.int .i64 a) && wqb (ints l)) = true; rw [ih]; rfl
theorem ev_isNaN (a : Int) : lim Try.prog cfg (.call 78 [.int .i64 a]) (HP []) = some (.val (.bool false), HP []) := by
 refine wkb hc wnw (Nat.le_of_ble_eq_true rfl) (Nat.le_of_ble_eq_true rfl) ?_
 unfold whs
 (repeat' (first | (simp -implicitDefEqProofs (maxSteps := 2000000) (disch := first | with_reducible assumption | omega | (simp only [zS, zA, seval] <;> omega) | fail) only [zS, argl, insA, Go.Den.wm, wo, wu, looks, wab, wz, idOf, riA, seval, Go.Den.wh, kK, *]) | (with_reducible (first | apply z1 | apply z2 | apply z3 | apply z4) <;> intro hq <;> (try simp only [zH] at hq) <;> (try (exfalso; omega)))))
theorem ev_Less (a b : Int) : lim Try.prog cfg (.call 121 [.int .i64 a, .int .i64 b]) (HP []) = some (.val (.bool (decide (a < b))), HP []) := by
 have h := ev_isNaN a
 refine wkb hc wdy (Nat.le_of_ble_eq_true rfl) (Nat.le_of_ble_eq_true rfl) ?_
 unfold wpt
 (repeat' (first | (simp -implicitDefEqProofs (maxSteps := 2000000) (disch := first | with_reducible assumption | omega | (simp only [zS, zA, seval] <;> omega) | fail) only [zS, argl, insA, Go.Den.wm, wo, wu, looks, wab, wz, idOf, riA, seval, Go.Den.wh, kK, *]) | (with_reducible (first | apply z1 | apply z2 | apply z3 | apply z4) <;> intro hq <;> (try simp only [zH] at hq) <;> (try (exfalso; omega)))))
set_option maxHeartbeats 4000000 in
theorem ins_in (N : Nat) (hN : N ≤ 12) (i : Nat) (hi : i < N) : ∀ (j : Nat) (l : List Int), l.length = N → j ≤ i →
  lim Try.prog cfg (.loop 115 1 (wpb 1) (SE (EJ 49 G1) [(7, .int .i64 j), (6, .int .i64 i), (2, .int .i64 N), (1, .int .i64 0), (0, slV N)])) (HP (yB l)) = some (.code (.exit 2) (SE (EJ 49 G1) [(6, .int .i64 i), (2, .int .i64 N), (1, .int .i64 0), (0, slV N)]), HP (yB (insJ j l))) := by
 intro j
 induction j with
 | zero =>
  intro l hl hj
  have hN0 : 0 < N := by omega
  rw [insJ]
  unfold yB
  rw [hl]
  obtain ⟨rr, rn⟩ := rY hN0
  refine web whe ?_
  unfold wmd
  (repeat' (first | (simp -implicitDefEqProofs (maxSteps := 2000000) (disch := first | with_reducible assumption | omega | (simp only [zS, zA, seval, rr, rn, wfb, zD, wwd, wej, wtn, wxd, wun, wmg, wvn, wye, wng, wze, wog, wyd, wdn, waf, wqm, wzc, wwn, wvb, wwb, wqe, wre, wpc, wqc, wse, wdg, weg, wxe, wrc, wfc, wqd, wsc, wrd, wtc, wdj, wte, wue, wfg, wgg, wsd, wuc, whg, wve, wwe, wvc, wgc, wig, wjg, wwc, wtd, wkg, wud, wxc, wgd, wfe, wyc, wlg, wvd, Bool.false_and] <;> omega) | fail) only [zS, argl, insA, Go.Den.wm, wo, wu, looks, wab, wz, idOf, riA, seval, Go.Den.wh, kK, wod, wcb, wgb, rr, rn, wfb, Nat.mul_one, Nat.max_self, *, zT, wwd, wej, wtn, wxd, wun, wmg, wvn, wye, wng, wze, wog, wyd, wdn, waf, wqm, wzc, wwn, wvb, wwb, wqe, wre, wpc, wqc, wse, wdg, weg, wxe, wrc, wfc, wqd, wsc, wrd, wtc, wdj, wte, wue, wfg, wgg, wsd, wuc, whg, wve, wwe, wvc, wgc, wig, wjg, wwc, wtd, wkg, wud, wxc, wgd, wfe, wyc, wlg, wvd, Bool.false_and]) | (with_reducible (first | apply z1 | apply z2 | apply z3 | apply z4) <;> intro hq <;> (try simp only [zH] at hq) <;> (try (exfalso; omega))) | (with_reducible apply z5; (case hl => (repeat (first | exact .nil | with_reducible apply z6 | with_reducible apply z7))); (case h => kernel_rfl))))
 | succ j ih =>
  intro l hl hj
  have hN0 : 0 < N := by omega
  have g1 := wkj (l := l) (i := j + 1) (by omega)
  have g0 := wkj (l := l) (i := j) (by omega)
  have hL := ev_Less (l.getD (j + 1) 0) (l.getD j 0)
  have e1 : ((j + 1 : Nat) : Int) = (j : Int) + 1 := rfl
  have e2 : (j : Int) + 1 - 1 = j := by omega
  have e3 : ((j : Int) + 1).toNat = j + 1 := by omega
  rw [insJ, e1]
  clear e1
  by_cases hq : l.getD (j + 1) 0 < l.getD j 0
  ·rw [if_pos hq]
   rw [decide_eq_true hq] at hL
   have h := ih ((l.set (j + 1) (l.getD j 0)).set j (l.getD (j + 1) 0)) (by rw [List.length_set, List.length_set]; exact hl) (by omega)
   generalize l.getD (j + 1) 0 = x at *
   generalize l.getD j 0 = y at *
   clear ih hq
   unfold yB at h ⊢
   rw [List.length_set, List.length_set] at h
   rw [wjy, List.length_set, List.length_set] at h ⊢
   rw [hl] at h ⊢
   have hil : (ints l).length = N := by rw [wfb, hl]
   obtain ⟨rr, rn⟩ := rY hN0
   refine web whe ?_
   unfold wmd
   (repeat' (first | (simp -implicitDefEqProofs (maxSteps := 2000000) (disch := first | with_reducible assumption | omega | (simp only [zS, zA, seval, rr, rn, wfb, zD, wwd, wej, wtn, wxd, wun, wmg, wvn, wye, wng, wze, wog, wyd, wdn, waf, wqm, wzc, wwn, wvb, wwb, wqe, wre, wpc, wqc, wse, wdg, weg, wxe, wrc, wfc, wqd, wsc, wrd, wtc, wdj, wte, wue, wfg, wgg, wsd, wuc, whg, wve, wwe, wvc, wgc, wig, wjg, wwc, wtd, wkg, wud, wxc, wgd, wfe, wyc, wlg, wvd, Bool.false_and] <;> omega) | fail) only [zS, argl, insA, Go.Den.wm, wo, wu, looks, wab, wz, idOf, riA, seval, Go.Den.wh, kK, wod, wcb, wgb, rr, rn, wfb, ints_set, Nat.mul_one, *, zT, wwd, wej, wtn, wxd, wun, wmg, wvn, wye, wng, wze, wog, wyd, wdn, waf, wqm, wzc, wwn, wvb, wwb, wqe, wre, wpc, wqc, wse, wdg, weg, wxe, wrc, wfc, wqd, wsc, wrd, wtc, wdj, wte, wue, wfg, wgg, wsd, wuc, whg, wve, wwe, wvc, wgc, wig, wjg, wwc, wtd, wkg, wud, wxc, wgd, wfe, wyc, wlg, wvd, Bool.false_and]) | (with_reducible (first | apply z1 | apply z2 | apply z3 | apply z4) <;> intro hq <;> (try simp only [zH] at hq) <;> (try (exfalso; omega))) | (with_reducible apply z5; (case hl => (repeat (first | exact .nil | with_reducible apply z6 | with_reducible apply z7))); (case h => kernel_rfl))))
   all_goals exact h
  ·rw [if_neg hq]
   rw [decide_eq_false hq] at hL
   generalize l.getD (j + 1) 0 = x at *
   generalize l.getD j 0 = y at *
   clear ih hq
   unfold yB
   rw [hl]
   obtain ⟨rr, rn⟩ := rY hN0
   refine web whe ?_
   unfold wmd
   (repeat' (first | (simp -implicitDefEqProofs (maxSteps := 2000000) (disch := first | with_reducible assumption | omega | (simp only [zS, zA, seval, rr, rn, wfb, zD, wwd, wej, wtn, wxd, wun, wmg, wvn, wye, wng, wze, wog, wyd, wdn, waf, wqm, wzc, wwn, wvb, wwb, wqe, wre, wpc, wqc, wse, wdg, weg, wxe, wrc, wfc, wqd, wsc, wrd, wtc, wdj, wte, wue, wfg, wgg, wsd, wuc, whg, wve, wwe, wvc, wgc, wig, wjg, wwc, wtd, wkg, wud, wxc, wgd, wfe, wyc, wlg, wvd, Bool.false_and] <;> omega) | fail) only [zS, argl, insA, Go.Den.wm, wo, wu, looks, wab, wz, idOf, riA, seval, Go.Den.wh, kK, wod, wcb, wgb, rr, rn, wfb, ints_set, Nat.mul_one, *, zT, wwd, wej, wtn, wxd, wun, wmg, wvn, wye, wng, wze, wog, wyd, wdn, waf, wqm, wzc, wwn, wvb, wwb, wqe, wre, wpc, wqc, wse, wdg, weg, wxe, wrc, wfc, wqd, wsc, wrd, wtc, wdj, wte, wue, wfg, wgg, wsd, wuc, whg, wve, wwe, wvc, wgc, wig, wjg, wwc, wtd, wkg, wud, wxc, wgd, wfe, wyc, wlg, wvd, Bool.false_and]) | (with_reducible (first | apply z1 | apply z2 | apply z3 | apply z4) <;> intro hq <;> (try simp only [zH] at hq) <;> (try (exfalso; omega))) | (with_reducible apply z5; (case hl => (repeat (first | exact .nil | with_reducible apply z6 | with_reducible apply z7))); (case h => kernel_rfl))))
set_option maxHeartbeats 4000000 in
theorem ins_out (N : Nat) (hN : N ≤ 12) (hN0 : 0 < N) : ∀ (k i : Nat) (l : List Int), i + k = N → l.length = N → 0 < i →
  lim Try.prog cfg (.loop 115 1 (wpb 0) (SE (EJ 49 G1) [(6, .int .i64 i), (2, .int .i64 N), (1, .int .i64 0), (0, slV N)])) (HP (yB l)) = some (.code (.exit 0) (SE (EJ 49 G1) []), HP (yB (wwt k i l))) := by
 intro k
 induction k with
 | zero =>
  intro i l hi hl h0
  rw [wwt]
  unfold yB
  rw [hl]
  obtain ⟨rr, rn⟩ := rY hN0
  refine web wie ?_
  unfold wnd
  (repeat' (first | (simp -implicitDefEqProofs (maxSteps := 2000000) (disch := first | with_reducible assumption | omega | (simp only [zS, zA, seval, rr, rn, wfb, zD, wwd, wej, wtn, wxd, wun, wmg, wvn, wye, wng, wze, wog, wyd, wdn, waf, wqm, wzc, wwn, wvb, wwb, wqe, wre, wpc, wqc, wse, wdg, weg, wxe, wrc, wfc, wqd, wsc, wrd, wtc, wdj, wte, wue, wfg, wgg, wsd, wuc, whg, wve, wwe, wvc, wgc, wig, wjg, wwc, wtd, wkg, wud, wxc, wgd, wfe, wyc, wlg, wvd, Bool.false_and] <;> omega) | fail) only [zS, argl, insA, Go.Den.wm, wo, wu, looks, wab, wz, idOf, riA, seval, Go.Den.wh, kK, wmc, wcb, wgb, rr, rn, wfb, Nat.mul_one, Nat.max_self, *, zT, wwd, wej, wtn, wxd, wun, wmg, wvn, wye, wng, wze, wog, wyd, wdn, waf, wqm, wzc, wwn, wvb, wwb, wqe, wre, wpc, wqc, wse, wdg, weg, wxe, wrc, wfc, wqd, wsc, wrd, wtc, wdj, wte, wue, wfg, wgg, wsd, wuc, whg, wve, wwe, wvc, wgc, wig, wjg, wwc, wtd, wkg, wud, wxc, wgd, wfe, wyc, wlg, wvd, Bool.false_and]) | (with_reducible (first | apply z1 | apply z2 | apply z3 | apply z4) <;> intro hq <;> (try simp only [zH] at hq) <;> (try (exfalso; omega)))))
 | succ k ih =>
  intro i l hi hl h0
  have h := ih (i + 1) (insJ i l) (by omega) (by rw [wjy]; exact hl) (by omega)
  have hin := ins_in N hN i (by omega) i l hl (Nat.le_refl _)
  rw [wwt]
  clear ih
  unfold yB at h hin ⊢
  rw [wjy] at h hin
  rw [wvfb, wjy] at h ⊢
  rw [hl] at h hin ⊢
  obtain ⟨rr, rn⟩ := rY hN0
  refine web wie ?_
  unfold wnd
  (repeat' (first | (simp -implicitDefEqProofs (maxSteps := 2000000) (disch := first | with_reducible assumption | omega | (simp only [zS, zA, seval, rr, rn, wfb, zD, wwd, wej, wtn, wxd, wun, wmg, wvn, wye, wng, wze, wog, wyd, wdn, waf, wqm, wzc, wwn, wvb, wwb, wqe, wre, wpc, wqc, wse, wdg, weg, wxe, wrc, wfc, wqd, wsc, wrd, wtc, wdj, wte, wue, wfg, wgg, wsd, wuc, whg, wve, wwe, wvc, wgc, wig, wjg, wwc, wtd, wkg, wud, wxc, wgd, wfe, wyc, wlg, wvd, Bool.false_and] <;> omega) | fail) only [zS, argl, insA, Go.Den.wm, wo, wu, looks, wab, wz, idOf, riA, seval, Go.Den.wh, kK, wmc, wod, wcb, wgb, rr, rn, wfb, Nat.mul_one, Nat.max_self, *, zT, wwd, wej, wtn, wxd, wun, wmg, wvn, wye, wng, wze, wog, wyd, wdn, waf, wqm, wzc, wwn, wvb, wwb, wqe, wre, wpc, wqc, wse, wdg, weg, wxe, wrc, wfc, wqd, wsc, wrd, wtc, wdj, wte, wue, wfg, wgg, wsd, wuc, whg, wve, wwe, wvc, wgc, wig, wjg, wwc, wtd, wkg, wud, wxc, wgd, wfe, wyc, wlg, wvd, Bool.false_and]) | (with_reducible (first | apply z1 | apply z2 | apply z3 | apply z4) <;> intro hq <;> (try simp only [zH] at hq) <;> (try (exfalso; omega)))))
  all_goals exact h
theorem ev_ins (l : List Int) (h0 : 0 < l.length) (h12 : l.length ≤ 12) : lim Try.prog cfg (.call 115 [slV l.length, .int .i64 0, .int .i64 l.length]) (HP (yB l)) = some (.val (.tuple ⟨[]⟩), HP (yB (weq l))) := by
 have h := ins_out l.length h12 h0 (l.length - 1) 1 l (by omega) rfl (by omega)
 rw [show ((1 : Nat) : Int) = 1 from rfl] at h
 have hl := wky l
 unfold weq at hl ⊢
 unfold yB at h ⊢
 rw [hl] at h ⊢
 generalize wwt (l.length - 1) 1 l = m at *
 obtain ⟨rr, rn⟩ := rY h0
 refine wkb hc wah (Nat.le_of_ble_eq_true rfl) (Nat.le_of_ble_eq_true rfl) ?_
 unfold wkf
 (repeat' (first | (simp -implicitDefEqProofs (maxSteps := 2000000) (disch := first | with_reducible assumption | omega | (simp only [zS, zA, seval, rr, rn, wfb, zD, wwd, wej, wtn, wxd, wun, wmg, wvn, wye, wng, wze, wog, wyd, wdn, waf, wqm, wzc, wwn, wvb, wwb, wqe, wre, wpc, wqc, wse, wdg, weg, wxe, wrc, wfc, wqd, wsc, wrd, wtc, wdj, wte, wue, wfg, wgg, wsd, wuc, whg, wve, wwe, wvc, wgc, wig, wjg, wwc, wtd, wkg, wud, wxc, wgd, wfe, wyc, wlg, wvd, Bool.false_and] <;> omega) | fail) only [zS, argl, insA, Go.Den.wm, wo, wu, looks, wab, wz, idOf, riA, seval, Go.Den.wh, kK, wmc, wcb, wgb, rr, rn, wfb, Nat.mul_one, Nat.max_self, *, zT, wwd, wej, wtn, wxd, wun, wmg, wvn, wye, wng, wze, wog, wyd, wdn, waf, wqm, wzc, wwn, wvb, wwb, wqe, wre, wpc, wqc, wse, wdg, weg, wxe, wrc, wfc, wqd, wsc, wrd, wtc, wdj, wte, wue, wfg, wgg, wsd, wuc, whg, wve, wwe, wvc, wgc, wig, wjg, wwc, wtd, wkg, wud, wxc, wgd, wfe, wyc, wlg, wvd, Bool.false_and]) | (with_reducible (first | apply z1 | apply z2 | apply z3 | apply z4) <;> intro hq <;> (try simp only [zH] at hq) <;> (try (exfalso; omega)))))
theorem ev_pdq (l : List Int) (h0 : 0 < l.length) (h12 : l.length ≤ 12) (k : Int) : lim Try.prog cfg (.call 99 [slV l.length, .int .i64 0, .int .i64 l.length, .int .i64 k]) (HP (yB l)) = some (.val (.tuple ⟨[]⟩), HP (yB (weq l))) := by
 have h := ev_ins l h0 h12
 have hl := wky l
 unfold yB at h ⊢
 rw [hl] at h ⊢
 generalize weq l = m at *
 have hp : lim Try.prog cfg (.loop 99 1 (wee 0) (SE (EJ 134 G1) [(9, .bool true), (8, .bool true), (3, .int .i64 k), (2, .int .i64 l.length), (1, .int .i64 0), (0, slV l.length)])) (HP [Y (ints l) 3 1 [l.length] 0]) = some (.code .ret (SE (EJ 134 G1) []), HP [Y (ints m) 3 1 [l.length] 0]) := by
  obtain ⟨rr, rn⟩ := rY h0
  refine web wii ?_
  unfold wag
  (repeat' (first | (simp -implicitDefEqProofs (maxSteps := 2000000) (disch := first | with_reducible assumption | omega | (simp only [zS, zA, seval, rr, rn, wfb, zD, wwd, wej, wtn, wxd, wun, wmg, wvn, wye, wng, wze, wog, wyd, wdn, waf, wqm, wzc, wwn, wvb, wwb, wqe, wre, wpc, wqc, wse, wdg, weg, wxe, wrc, wfc, wqd, wsc, wrd, wtc, wdj, wte, wue, wfg, wgg, wsd, wuc, whg, wve, wwe, wvc, wgc, wig, wjg, wwc, wtd, wkg, wud, wxc, wgd, wfe, wyc, wlg, wvd, Bool.false_and] <;> omega) | fail) only [zS, argl, insA, Go.Den.wm, wo, wu, looks, wab, wz, idOf, riA, seval, Go.Den.wh, kK, wpe, wcb, wgb, rr, rn, wfb, Nat.mul_one, Nat.max_self, *, zT, wwd, wej, wtn, wxd, wun, wmg, wvn, wye, wng, wze, wog, wyd, wdn, waf, wqm, wzc, wwn, wvb, wwb, wqe, wre, wpc, wqc, wse, wdg, weg, wxe, wrc, wfc, wqd, wsc, wrd, wtc, wdj, wte, wue, wfg, wgg, wsd, wuc, whg, wve, wwe, wvc, wgc, wig, wjg, wwc, wtd, wkg, wud, wxc, wgd, wfe, wyc, wlg, wvd, Bool.false_and]) | (with_reducible (first | apply z1 | apply z2 | apply z3 | apply z4) <;> intro hq <;> (try simp only [zH] at hq) <;> (try (exfalso; omega))) | (with_reducible apply z5; (case hl => (repeat (first | exact .nil | with_reducible apply z6 | with_reducible apply z7))); (case h => kernel_rfl))))
 obtain ⟨rr, rn⟩ := rY h0
 refine wkb hc wyi (Nat.le_of_ble_eq_true rfl) (Nat.le_of_ble_eq_true rfl) ?_
 unfold wdh
 (repeat' (first | (simp -implicitDefEqProofs (maxSteps := 2000000) (disch := first | with_reducible assumption | omega | (simp only [zS, zA, seval, rr, rn, wfb, zD, wwd, wej, wtn, wxd, wun, wmg, wvn, wye, wng, wze, wog, wyd, wdn, waf, wqm, wzc, wwn, wvb, wwb, wqe, wre, wpc, wqc, wse, wdg, weg, wxe, wrc, wfc, wqd, wsc, wrd, wtc, wdj, wte, wue, wfg, wgg, wsd, wuc, whg, wve, wwe, wvc, wgc, wig, wjg, wwc, wtd, wkg, wud, wxc, wgd, wfe, wyc, wlg, wvd, Bool.false_and] <;> omega) | fail) only [zS, argl, insA, Go.Den.wm, wo, wu, looks, wab, wz, idOf, riA, seval, Go.Den.wh, kK, wpe, wcb, wgb, rr, rn, wfb, Nat.mul_one, Nat.max_self, *, zT, wwd, wej, wtn, wxd, wun, wmg, wvn, wye, wng, wze, wog, wyd, wdn, waf, wqm, wzc, wwn, wvb, wwb, wqe, wre, wpc, wqc, wse, wdg, weg, wxe, wrc, wfc, wqd, wsc, wrd, wtc, wdj, wte, wue, wfg, wgg, wsd, wuc, whg, wve, wwe, wvc, wgc, wig, wjg, wwc, wtd, wkg, wud, wxc, wgd, wfe, wyc, wlg, wvd, Bool.false_and]) | (with_reducible (first | apply z1 | apply z2 | apply z3 | apply z4) <;> intro hq <;> (try simp only [zH] at hq) <;> (try (exfalso; omega))) | (with_reducible apply z5; (case hl => (repeat (first | exact .nil | with_reducible apply z6 | with_reducible apply z7))); (case h => kernel_rfl))))
end
end Go.Proofs.Ytjihbfdbgamcdaa
namespace Go.Proofs.Ytjihbfdbgamcdaa
set_option linter.unusedVariables false
set_option linter.unusedSimpArgs false
open Go.Den
noncomputable section
theorem ev_ins0 : lim Try.prog cfg (.call 115 [.slice none 0 0, .int .i64 0, .int .i64 0]) (HP []) = some (.val (.tuple ⟨[]⟩), HP []) := by
 have h : lim Try.prog cfg (.loop 115 0 (wpb 0) (SE (EJ 49 G1) [(6, .int .i64 1), (2, .int .i64 0), (1, .int .i64 0), (0, .slice none 0 0)])) (HP []) = some (.code (.exit 0) (SE (EJ 49 G1) []), HP []) := by
  refine web wie ?_
  unfold wnd
  (repeat' (first | (simp -implicitDefEqProofs (maxSteps := 2000000) (disch := first | with_reducible assumption | omega | (simp only [zS, zA, seval, zD] <;> omega) | fail) only [zS, argl, insA, Go.Den.wm, wo, wu, looks, wab, wz, idOf, riA, seval, Go.Den.wh, kK, wmc, *, zT]) | (with_reducible (first | apply z1 | apply z2 | apply z3 | apply z4) <;> intro hq <;> (try simp only [zH] at hq) <;> (try (exfalso; omega)))))
 refine wkb hc wah (Nat.le_of_ble_eq_true rfl) (Nat.le_of_ble_eq_true rfl) ?_
 unfold wkf
 (repeat' (first | (simp -implicitDefEqProofs (maxSteps := 2000000) (disch := first | with_reducible assumption | omega | (simp only [zS, zA, seval, zD] <;> omega) | fail) only [zS, argl, insA, Go.Den.wm, wo, wu, looks, wab, wz, idOf, riA, seval, Go.Den.wh, kK, wmc, *, zT]) | (with_reducible (first | apply z1 | apply z2 | apply z3 | apply z4) <;> intro hq <;> (try simp only [zH] at hq) <;> (try (exfalso; omega)))))
theorem ev_pdq0 (k : Int) : lim Try.prog cfg (.call 99 [.slice none 0 0, .int .i64 0, .int .i64 0, .int .i64 k]) (HP []) = some (.val (.tuple ⟨[]⟩), HP []) := by
 have h := ev_ins0
 have hp : lim Try.prog cfg (.loop 99 0 (wee 0) (SE (EJ 134 G1) [(9, .bool true), (8, .bool true), (3, .int .i64 k), (2, .int .i64 0), (1, .int .i64 0), (0, .slice none 0 0)])) (HP []) = some (.code .ret (SE (EJ 134 G1) []), HP []) := by
  refine web wii ?_
  unfold wag
  (repeat' (first | (simp -implicitDefEqProofs (maxSteps := 2000000) (disch := first | with_reducible assumption | omega | (simp only [zS, zA, seval, zD] <;> omega) | fail) only [zS, argl, insA, Go.Den.wm, wo, wu, looks, wab, wz, idOf, riA, seval, Go.Den.wh, kK, wpe, wcb, wgb, *, zT]) | (with_reducible (first | apply z1 | apply z2 | apply z3 | apply z4) <;> intro hq <;> (try simp only [zH] at hq) <;> (try (exfalso; omega))) | (with_reducible apply z5; (case hl => (repeat (first | exact .nil | with_reducible apply z6 | with_reducible apply z7))); (case h => kernel_rfl))))
 refine wkb hc wyi (Nat.le_of_ble_eq_true rfl) (Nat.le_of_ble_eq_true rfl) ?_
 unfold wdh
 (repeat' (first | (simp -implicitDefEqProofs (maxSteps := 2000000) (disch := first | with_reducible assumption | omega | (simp only [zS, zA, seval, zD] <;> omega) | fail) only [zS, argl, insA, Go.Den.wm, wo, wu, looks, wab, wz, idOf, riA, seval, Go.Den.wh, kK, wpe, wcb, wgb, *, zT]) | (with_reducible (first | apply z1 | apply z2 | apply z3 | apply z4) <;> intro hq <;> (try simp only [zH] at hq) <;> (try (exfalso; omega))) | (with_reducible apply z5; (case hl => (repeat (first | exact .nil | with_reducible apply z6 | with_reducible apply z7))); (case h => kernel_rfl))))
set_option maxRecDepth 100000 in
theorem ev_Len64 (n : Nat) (hn : n ≤ 12) : ∃ k : Int, lim Try.prog cfg (.call 125 [.int .u64 n]) (HP []) = some (.val (.int .i64 k), HP []) := by
 rcases (show n = 0 ∨ n = 1 ∨ n = 2 ∨ n = 3 ∨ n = 4 ∨ n = 5 ∨ n = 6 ∨ n = 7 ∨ n = 8 ∨ n = 9 ∨ n = 10 ∨ n = 11 ∨ n = 12 by omega) with rfl | rfl | rfl | rfl | rfl | rfl | rfl | rfl | rfl | rfl | rfl | rfl | rfl
 case' inl => refine ⟨0, ?_⟩
 case' inr.inl => refine ⟨1, ?_⟩
 case' inr.inr.inl => refine ⟨2, ?_⟩
 case' inr.inr.inr.inl => refine ⟨2, ?_⟩
 case' inr.inr.inr.inr.inl => refine ⟨3, ?_⟩
 case' inr.inr.inr.inr.inr.inl => refine ⟨3, ?_⟩
 case' inr.inr.inr.inr.inr.inr.inl => refine ⟨3, ?_⟩
 case' inr.inr.inr.inr.inr.inr.inr.inl => refine ⟨3, ?_⟩
 case' inr.inr.inr.inr.inr.inr.inr.inr.inl => refine ⟨4, ?_⟩
 case' inr.inr.inr.inr.inr.inr.inr.inr.inr.inl => refine ⟨4, ?_⟩
 case' inr.inr.inr.inr.inr.inr.inr.inr.inr.inr.inl => refine ⟨4, ?_⟩
 case' inr.inr.inr.inr.inr.inr.inr.inr.inr.inr.inr.inl => refine ⟨4, ?_⟩
 case' inr.inr.inr.inr.inr.inr.inr.inr.inr.inr.inr.inr => refine ⟨4, ?_⟩
 all_goals
  refine wkb hc wqt (Nat.le_of_ble_eq_true rfl) (Nat.le_of_ble_eq_true rfl) ?_
  unfold wsp
  (repeat' (first | (simp -implicitDefEqProofs (maxSteps := 2000000) (disch := first | with_reducible assumption | omega | (simp only [zS, zA, seval] <;> omega) | fail) only [zS, argl, insA, Go.Den.wm, wo, wu, looks, wab, wz, idOf, riA, seval, Go.Den.wh, kK, *]) | (with_reducible (first | apply z1 | apply z2 | apply z3 | apply z4) <;> intro hq <;> (try simp only [zH] at hq) <;> (try (exfalso; omega)))))
  all_goals rfl
theorem ev_Len (n : Nat) (hn : n ≤ 12) : ∃ k : Int, lim Try.prog cfg (.call 100 [.int .u64 n]) (HP []) = some (.val (.int .i64 k), HP []) := by
 obtain ⟨k, h⟩ := ev_Len64 n hn
 refine ⟨k, ?_⟩
 refine wkb hc wow (Nat.le_of_ble_eq_true rfl) (Nat.le_of_ble_eq_true rfl) ?_
 unfold wis
 (repeat' (first | (simp -implicitDefEqProofs (maxSteps := 2000000) (disch := first | with_reducible assumption | omega | (simp only [zS, zA, seval] <;> omega) | fail) only [zS, argl, insA, Go.Den.wm, wo, wu, looks, wab, wz, idOf, riA, seval, Go.Den.wh, kK, *]) | (with_reducible (first | apply z1 | apply z2 | apply z3 | apply z4) <;> intro hq <;> (try simp only [zH] at hq) <;> (try (exfalso; omega)))))
theorem ev_Sort (l : List Int) (h0 : 0 < l.length) (h12 : l.length ≤ 12) : lim Try.prog cfg (.call 68 [slV l.length]) (HP (yB l)) = some (.val (.tuple ⟨[]⟩), HP (yB (weq l))) := by
 obtain ⟨k, hk⟩ := ev_Len l.length h12
 have h := ev_pdq l h0 h12 k
 have hl := wky l
 unfold yB at h ⊢
 rw [hl] at h ⊢
 generalize weq l = m at *
 obtain ⟨rr, rn⟩ := rY h0
 refine wkb hc wgl (Nat.le_of_ble_eq_true rfl) (Nat.le_of_ble_eq_true rfl) ?_
 unfold wqj
 (repeat' (first | (simp -implicitDefEqProofs (maxSteps := 2000000) (disch := first | with_reducible assumption | omega | (simp only [zS, zA, seval, rr, rn, wfb, zD, wwd, wej, wtn, wxd, wun, wmg, wvn, wye, wng, wze, wog, wyd, wdn, waf, wqm, wzc, wwn, wvb, wwb, wqe, wre, wpc, wqc, wse, wdg, weg, wxe, wrc, wfc, wqd, wsc, wrd, wtc, wdj, wte, wue, wfg, wgg, wsd, wuc, whg, wve, wwe, wvc, wgc, wig, wjg, wwc, wtd, wkg, wud, wxc, wgd, wfe, wyc, wlg, wvd, Bool.false_and] <;> omega) | fail) only [zS, argl, insA, Go.Den.wm, wo, wu, looks, wab, wz, idOf, riA, seval, Go.Den.wh, kK, rr, rn, wfb, Nat.mul_one, Nat.max_self, *, zT, wwd, wej, wtn, wxd, wun, wmg, wvn, wye, wng, wze, wog, wyd, wdn, waf, wqm, wzc, wwn, wvb, wwb, wqe, wre, wpc, wqc, wse, wdg, weg, wxe, wrc, wfc, wqd, wsc, wrd, wtc, wdj, wte, wue, wfg, wgg, wsd, wuc, whg, wve, wwe, wvc, wgc, wig, wjg, wwc, wtd, wkg, wud, wxc, wgd, wfe, wyc, wlg, wvd, Bool.false_and]) | (with_reducible (first | apply z1 | apply z2 | apply z3 | apply z4) <;> intro hq <;> (try simp only [zH] at hq) <;> (try (exfalso; omega)))))
theorem ev_Sort0 : lim Try.prog cfg (.call 68 [.slice none 0 0]) (HP []) = some (.val (.tuple ⟨[]⟩), HP []) := by
 obtain ⟨k, hk⟩ := ev_Len 0 (by omega)
 have h := ev_pdq0 k
 rw [show ((0 : Nat) : Int) = 0 from rfl] at hk
 refine wkb hc wgl (Nat.le_of_ble_eq_true rfl) (Nat.le_of_ble_eq_true rfl) ?_
 unfold wqj
 (repeat' (first | (simp -implicitDefEqProofs (maxSteps := 2000000) (disch := first | with_reducible assumption | omega | (simp only [zS, zA, seval, zD] <;> omega) | fail) only [zS, argl, insA, Go.Den.wm, wo, wu, looks, wab, wz, idOf, riA, seval, Go.Den.wh, kK, *, zT]) | (with_reducible (first | apply z1 | apply z2 | apply z3 | apply z4) <;> intro hq <;> (try simp only [zH] at hq) <;> (try (exfalso; omega)))))
theorem ej61 : (EJ 61 G1).get 2 = JK := rfl
theorem wnkc (l : List Int) (hl : l.length ≤ 12) (hs : ∀ i, i + 1 < l.length → l.getD i 0 < l.getD (i + 1) 0) : ∀ (k i : Nat), i + k = l.length → 0 < i →
  lim Try.prog cfg (.loop 69 0 (wef 0) (SE (EJ 61 G1) [(3, .int .i64 i), (0, FL l.length (ints l))])) (HP []) = some (.code (.exit 0) (SE (EJ 61 G1) [(2, JK), (0, FL l.length (ints l))]), HP []) := by
 intro k
 induction k with
 | zero =>
  intro i hi h0
  clear hs
  refine web wcj ?_
  unfold wmh
  (repeat' (first | (simp -implicitDefEqProofs (maxSteps := 2000000) (disch := first | with_reducible assumption | omega | (simp only [zS, zA, seval, wfb, wyb, wbd, zD] <;> omega) | fail) only [zS, argl, insA, Go.Den.wm, wo, wu, looks, wab, wz, idOf, riA, seval, Go.Den.wh, kK, wnh, wcb, wgb, wfb, wyb, wbd, ej61, *, zT]) | (with_reducible (first | apply z1 | apply z2 | apply z3 | apply z4) <;> intro hq <;> (try simp only [zH] at hq) <;> (try (exfalso; omega))) | (with_reducible apply z5; (case hl => (repeat (first | exact .nil | with_reducible apply z6 | with_reducible apply z7))); (case h => kernel_rfl))))
 | succ k ih =>
  intro i hi h0
  have h := ih (i + 1) (by omega) (by omega)
  have h1 := hs (i - 1) (by omega)
  rw [show i - 1 + 1 = i by omega] at h1
  have g1 := wkj (l := l) (i := i) (by omega)
  have g0 := wkj (l := l) (i := i - 1) (by omega)
  have e1 : ((i : Int) - 1).toNat = i - 1 := by omega
  clear ih hs
  generalize l.getD i 0 = x at *
  generalize l.getD (i - 1) 0 = y at *
  refine web wcj ?_
  unfold wmh
  (repeat' (first | (simp -implicitDefEqProofs (maxSteps := 2000000) (disch := first | with_reducible assumption | omega | (simp only [zS, zA, seval, wfb, wyb, wbd, zD] <;> omega) | fail) only [zS, argl, insA, Go.Den.wm, wo, wu, looks, wab, wz, idOf, riA, seval, Go.Den.wh, kK, wnh, wcb, wgb, wfb, Nat.mul_one, wyb, wbd, ej61, *, zT]) | (with_reducible (first | apply z1 | apply z2 | apply z3 | apply z4) <;> intro hq <;> (try simp only [zH] at hq) <;> (try (exfalso; omega))) | (with_reducible apply z5; (case hl => (repeat (first | exact .nil | with_reducible apply z6 | with_reducible apply z7))); (case h => kernel_rfl))))
  all_goals exact h
theorem wwfb (l : List Int) (hl : l.length ≤ 12) (hs : ∀ i, i + 1 < l.length → l.getD i 0 < l.getD (i + 1) 0) : lim Try.prog cfg (.call 69 [FL l.length (ints l)]) (HP []) = some (.val (FL l.length (ints l)), HP []) := by
 by_cases h2 : l.length < 2
 ·clear hs
  refine wkb hc wek (Nat.le_of_ble_eq_true rfl) (Nat.le_of_ble_eq_true rfl) ?_
  unfold wmi
  (repeat' (first | (simp -implicitDefEqProofs (maxSteps := 2000000) (disch := first | with_reducible assumption | omega | (simp only [zS, zA, seval, wfb, zD] <;> omega) | fail) only [zS, argl, insA, Go.Den.wm, wo, wu, looks, wab, wz, idOf, riA, seval, Go.Den.wh, kK, wcb, wgb, wfb, *, zT]) | (with_reducible (first | apply z1 | apply z2 | apply z3 | apply z4) <;> intro hq <;> (try simp only [zH] at hq) <;> (try (exfalso; omega)))))
 ·have h := wnkc l hl hs (l.length - 1) 1 (by omega) (by omega)
  rw [show ((1 : Nat) : Int) = 1 from rfl] at h
  clear hs
  refine wkb hc wek (Nat.le_of_ble_eq_true rfl) (Nat.le_of_ble_eq_true rfl) ?_
  unfold wmi
  (repeat' (first | (simp -implicitDefEqProofs (maxSteps := 2000000) (disch := first | with_reducible assumption | omega | (simp only [zS, zA, seval, wfb, wyb, wbd, zD] <;> omega) | fail) only [zS, argl, insA, Go.Den.wm, wo, wu, looks, wab, wz, idOf, riA, seval, Go.Den.wh, kK, wnh, wcb, wgb, wfb, wyb, wbd, ej61, *, zT]) | (with_reducible (first | apply z1 | apply z2 | apply z3 | apply z4) <;> intro hq <;> (try simp only [zH] at hq) <;> (try (exfalso; omega)))))
theorem wokc {l : List Int} {x : Int} : ints (l ++ [x]) = ints l ++ [.int .i64 x] := by rw [ints, List.map_append]; rfl
def atL (xs : List St) : List Int := xs.map (·.1)
theorem wpkc {xs : List St} : (atL xs).length = xs.length := List.length_map ..
theorem wztb {xs : List St} {j : Nat} (h : j < xs.length) : atL (xs.drop j) = (xs.getD j St.zero).1 :: atL (xs.drop (j + 1)) := by
 unfold atL
 rw [List.drop_eq_getElem_cons h, List.map_cons, List.getD_eq_getElem?_getD, List.getElem?_eq_getElem h]; rfl
theorem rY1 {N : Nat} : refs (.slice (some ⟨0, 0, some 1⟩) (N + 1) 0) = [(0, 1)] ∧ ∀ m, renV m (.slice (some ⟨0, 0, some 1⟩) (N + 1) 0) = .slice (some ⟨(m 0 1).1, 0, some (m 0 1).2⟩) (N + 1) 0 := ⟨wgd (by omega), fun _ => wfe (by omega)⟩
theorem ends_C (xs : List St) (h12 : xs.length ≤ 12) : ∀ (k j : Nat) (l : List Int), j + k = xs.length → 0 < l.length → l.length ≤ 12 →
  lim Try.prog cfg (.loop 31 0 (wcn 0) (SE (EJ 32 G1) [(18, .int .i64 j), (17, .int .i64 xs.length), (16, FL xs.length (stsC xs)), (9, slV l.length)])) (HP (yB l)) = some (.code (.exit 0) (SE (EJ 32 G1) [(9, slV (l ++ atL (xs.drop j)).length)]), HP (yB (l ++ atL (xs.drop j)))) ∨ 12 < l.length + k := by
 intro k
 induction k with
 | zero =>
  intro j l hj h0 hl
  left
  rw [List.drop_of_length_le (by omega), show atL [] = [] from rfl, List.append_nil]
  obtain ⟨rr, rn⟩ := rY h0
  refine web wsl ?_
  unfold wnm
  (repeat' (first | (simp -implicitDefEqProofs (maxSteps := 2000000) (disch := first | with_reducible assumption | omega | (simp only [zS, zA, seval, rr, rn, wrt, wfb, zD, wwd, wej, wtn, wxd, wun, wmg, wvn, wye, wng, wze, wog, wyd, wdn, waf, wqm, wzc, wwn, wvb, wwb, wqe, wre, wpc, wqc, wse, wdg, weg, wxe, wrc, wfc, wqd, wsc, wrd, wtc, wdj, wte, wue, wfg, wgg, wsd, wuc, whg, wve, wwe, wvc, wgc, wig, wjg, wwc, wtd, wkg, wud, wxc, wgd, wfe, wyc, wlg, wvd, Bool.false_and] <;> omega) | fail) only [zS, argl, insA, Go.Den.wm, wo, wu, looks, wab, wz, idOf, riA, seval, Go.Den.wh, kK, wnk, rr, rn, wfb, *, zT, wwd, wej, wtn, wxd, wun, wmg, wvn, wye, wng, wze, wog, wyd, wdn, waf, wqm, wzc, wwn, wvb, wwb, wqe, wre, wpc, wqc, wse, wdg, weg, wxe, wrc, wfc, wqd, wsc, wrd, wtc, wdj, wte, wue, wfg, wgg, wsd, wuc, whg, wve, wwe, wvc, wgc, wig, wjg, wwc, wtd, wkg, wud, wxc, wgd, wfe, wyc, wlg, wvd, Bool.false_and]) | (with_reducible (first | apply z1 | apply z2 | apply z3 | apply z4) <;> intro hq <;> (try simp only [zH] at hq) <;> (try (exfalso; omega)))))
 | succ k ih =>
  intro j l hj h0 hl
  by_cases hq : 12 < l.length + (k + 1)
  ·exact .inr hq
  left
  have hlt : j < xs.length := by omega
  rcases ih (j + 1) (l ++ [(xs.getD j St.zero).1]) (by omega) (by simp) (by rw [List.length_append, List.length_singleton]; omega) with h | h
  ·rw [List.append_assoc, List.singleton_append, ← wztb hlt] at h
   unfold yB at h ⊢
   rw [wokc, List.length_append, List.length_singleton] at h
   have hsl := wtu (l := xs) (i := j) hlt
   generalize l ++ atL (xs.drop j) = R at h ⊢
   generalize xs.getD j St.zero = x at *
   clear ih
   obtain ⟨rr, rn⟩ := rY h0
   obtain ⟨r1, n1⟩ := rY1 (N := l.length)
   refine web wsl ?_
   unfold wnm
   (repeat' (first | (simp -implicitDefEqProofs (maxSteps := 2000000) (disch := first | with_reducible assumption | omega | (simp only [zS, zA, seval, rr, rn, r1, n1, wrt, wfb, wzl, Nat.mul_one, zD, wwd, wej, wtn, wxd, wun, wmg, wvn, wye, wng, wze, wog, wyd, wdn, waf, wqm, wzc, wwn, wvb, wwb, wqe, wre, wpc, wqc, wse, wdg, weg, wxe, wrc, wfc, wqd, wsc, wrd, wtc, wdj, wte, wue, wfg, wgg, wsd, wuc, whg, wve, wwe, wvc, wgc, wig, wjg, wwc, wtd, wkg, wud, wxc, wgd, wfe, wyc, wlg, wvd, Bool.false_and] <;> omega) | fail) only [zS, argl, insA, Go.Den.wm, wo, wu, looks, wab, wz, idOf, riA, seval, Go.Den.wh, kK, wnk, rr, rn, r1, n1, wfb, wzl, Nat.mul_one, List.length_append, List.length_cons, List.length_nil, *, zT, wwd, wej, wtn, wxd, wun, wmg, wvn, wye, wng, wze, wog, wyd, wdn, waf, wqm, wzc, wwn, wvb, wwb, wqe, wre, wpc, wqc, wse, wdg, weg, wxe, wrc, wfc, wqd, wsc, wrd, wtc, wdj, wte, wue, wfg, wgg, wsd, wuc, whg, wve, wwe, wvc, wgc, wig, wjg, wwc, wtd, wkg, wud, wxc, wgd, wfe, wyc, wlg, wvd, Bool.false_and]) | (with_reducible (first | apply z1 | apply z2 | apply z3 | apply z4) <;> intro hq <;> (try simp only [zH] at hq) <;> (try (exfalso; omega)))))
   all_goals exact h
  ·rw [List.length_append, List.length_singleton] at h; omega
theorem ends_N (xs : List St) (h12 : xs.length ≤ 12) (h0 : 0 < xs.length) :
  lim Try.prog cfg (.loop 31 0 (wcn 0) (SE (EJ 32 G1) [(18, .int .i64 0), (17, .int .i64 xs.length), (16, FL xs.length (stsC xs)), (9, .slice none 0 0)])) (HP []) = some (.code (.exit 0) (SE (EJ 32 G1) [(9, slV (atL xs).length)]), HP (yB (atL xs))) := by
 rcases ends_C xs h12 (xs.length - 1) 1 [(xs.getD 0 St.zero).1] (by omega) (by simp) (by simp) with h | h
 ·have hd := wztb h0
  rw [List.drop_zero] at hd
  rw [List.singleton_append, ← hd] at h
  unfold yB at h ⊢
  rw [show ints [(xs.getD 0 St.zero).1] = [.int .i64 (xs.getD 0 St.zero).1] from rfl, List.length_singleton, show ((1 : Nat) : Int) = 1 from rfl] at h
  have hsl := wtu (l := xs) (i := 0) h0
  rw [Nat.zero_mul] at hsl
  generalize xs.getD 0 St.zero = x at *
  generalize atL xs = R at *
  clear hd
  obtain ⟨rr, rn⟩ := rY (N := 1) (by omega)
  refine web wsl ?_
  unfold wnm
  (repeat' (first | (simp -implicitDefEqProofs (maxSteps := 2000000) (disch := first | with_reducible assumption | omega | (simp only [zS, zA, seval, rr, rn, wrt, wfb, wzl, Nat.mul_one, zD, wwd, wej, wtn, wxd, wun, wmg, wvn, wye, wng, wze, wog, wyd, wdn, waf, wqm, wzc, wwn, wvb, wwb, wqe, wre, wpc, wqc, wse, wdg, weg, wxe, wrc, wfc, wqd, wsc, wrd, wtc, wdj, wte, wue, wfg, wgg, wsd, wuc, whg, wve, wwe, wvc, wgc, wig, wjg, wwc, wtd, wkg, wud, wxc, wgd, wfe, wyc, wlg, wvd, Bool.false_and] <;> omega) | fail) only [zS, argl, insA, Go.Den.wm, wo, wu, looks, wab, wz, idOf, riA, seval, Go.Den.wh, kK, wnk, rr, rn, wfb, wzl, Nat.mul_one, List.length_append, List.length_cons, List.length_nil, *, zT, wwd, wej, wtn, wxd, wun, wmg, wvn, wye, wng, wze, wog, wyd, wdn, waf, wqm, wzc, wwn, wvb, wwb, wqe, wre, wpc, wqc, wse, wdg, weg, wxe, wrc, wfc, wqd, wsc, wrd, wtc, wdj, wte, wue, wfg, wgg, wsd, wuc, whg, wve, wwe, wvc, wgc, wig, wjg, wwc, wtd, wkg, wud, wxc, wgd, wfe, wyc, wlg, wvd, Bool.false_and]) | (with_reducible (first | apply z1 | apply z2 | apply z3 | apply z4) <;> intro hq <;> (try simp only [zH] at hq) <;> (try (exfalso; omega)))))
  all_goals exact h
 ·rw [List.length_singleton] at h; omega
theorem wpzb {l : List Int} : slotsOf (ints l) 0 l.length = ints l := by
 unfold slotsOf
 rw [List.drop_zero, List.take_of_length_le (by rw [wfb]; exact Nat.le_refl _)]
set_option maxHeartbeats 4000000 in
theorem ev_Ends (r : Rx) (hn : wub r ≤ 1000000) (s : List UInt8) (hs : s.length ≤ 12) (bol : Bool) (a : Int) (h12 : (wfk r s bol a).length ≤ 12)
  (hup : ∀ i, i + 1 < (weq (atL (wfk r s bol a))).length → (weq (atL (wfk r s bol a))).getD i 0 < (weq (atL (wfk r s bol a))).getD (i + 1) 0) :
  lim Try.prog cfg (.call 31 [.agg ⟨rxC r⟩, str s, .bool bol, .int .i64 a]) (HP []) = some (.val (FL (weq (atL (wfk r s bol a))).length (ints (weq (atL (wfk r s bol a))))), HP []) := by
 have hw := wrib r hn s hs bol a
 generalize wfk r s bol a = xs at *
 by_cases h0 : xs = []
 ·subst h0
  have e1 := ev_Sort0
  have e2 := wwfb [] (by simp) (fun i hi => by simp at hi)
  rw [show ([] : List Int).length = 0 from rfl, show ints [] = [] from rfl] at e2
  have e3 : lim Try.prog cfg (.loop 31 0 (wcn 0) (SE (EJ 32 G1) [(18, .int .i64 0), (17, .int .i64 0), (16, FL 0 []), (9, .slice none 0 0)])) (HP []) = some (.code (.exit 0) (SE (EJ 32 G1) [(9, .slice none 0 0)]), HP []) := by
   refine web wsl ?_
   unfold wnm
   (repeat' (first | (simp -implicitDefEqProofs (maxSteps := 2000000) (disch := first | with_reducible assumption | omega | (simp only [zS, zA, seval, zD] <;> omega) | fail) only [zS, argl, insA, Go.Den.wm, wo, wu, looks, wab, wz, idOf, riA, seval, Go.Den.wh, kK, wnk, *, zT]) | (with_reducible (first | apply z1 | apply z2 | apply z3 | apply z4) <;> intro hq <;> (try simp only [zH] at hq) <;> (try (exfalso; omega)))))
  rw [show ([] : List St).length = 0 from rfl, show stsC [] = [] from rfl] at hw
  clear hup
  rw [show weq (atL []) = [] from rfl, show ([] : List Int).length = 0 from rfl, show ints [] = [] from rfl]
  refine wkb hc wqv (Nat.le_of_ble_eq_true rfl) (Nat.le_of_ble_eq_true rfl) ?_
  unfold wmw
  (repeat' (first | (simp -implicitDefEqProofs (maxSteps := 2000000) (disch := first | with_reducible assumption | omega | (simp only [zS, zA, seval, wuk, zD] <;> omega) | fail) only [zS, argl, insA, Go.Den.wm, wo, wu, looks, wab, wz, idOf, riA, seval, Go.Den.wh, kK, wnk, *, zT]) | (with_reducible (first | apply z1 | apply z2 | apply z3 | apply z4) <;> intro hq <;> (try simp only [zH] at hq) <;> (try (exfalso; omega)))))
 ·have hp : 0 < xs.length := List.length_pos_iff.2 h0
  have e1 := ends_N xs h12 hp
  have hal : (atL xs).length = xs.length := wpkc
  have e2 := ev_Sort (atL xs) (by omega) (by omega)
  have hsl := wky (atL xs)
  have e3 := wwfb (weq (atL xs)) (by omega) hup
  clear hup h0
  generalize weq (atL xs) = m at *
  generalize atL xs = q at *
  have hpq : 0 < q.length := by omega
  have hmw := wpzb (l := m)
  unfold yB at e1 e2
  rw [hsl] at e2 e3 hmw ⊢
  have hsly : slY 0 q.length (some (Y (ints m) 3 1 [q.length] 0)) = some (FL q.length (ints m), [(0, q.length)]) := by
   have := wqm (i := 0) (n := q.length) (cs := ints m) (elem := 3) (esz := 1) (a := q.length) (z := 0) (by omega) (by omega) (by rw [Nat.mul_one, hmw]; exact wzl)
   rw [Nat.mul_one, hmw] at this
   exact this
  clear hal
  obtain ⟨rr, rn⟩ := rY hpq
  refine wkb hc wqv (Nat.le_of_ble_eq_true rfl) (Nat.le_of_ble_eq_true rfl) ?_
  unfold wmw
  (repeat' (first | (simp -implicitDefEqProofs (maxSteps := 2000000) (disch := first | with_reducible assumption | omega | (simp only [zS, zA, seval, rr, rn, hsly, wrt, wuk, wfb, wzl, Nat.mul_one, zD, wwd, wej, wtn, wxd, wun, wmg, wvn, wye, wng, wze, wog, wyd, wdn, waf, wqm, wzc, wwn, wvb, wwb, wqe, wre, wpc, wqc, wse, wdg, weg, wxe, wrc, wfc, wqd, wsc, wrd, wtc, wdj, wte, wue, wfg, wgg, wsd, wuc, whg, wve, wwe, wvc, wgc, wig, wjg, wwc, wtd, wkg, wud, wxc, wgd, wfe, wyc, wlg, wvd, Bool.false_and] <;> omega) | fail) only [zS, argl, insA, Go.Den.wm, wo, wu, looks, wab, wz, idOf, riA, seval, Go.Den.wh, kK, wnk, rr, rn, wfb, wzl, Nat.mul_one, Nat.zero_le, Nat.max_self, *, zT, wwd, wej, wtn, wxd, wun, wmg, wvn, wye, wng, wze, wog, wyd, wdn, waf, wqm, wzc, wwn, wvb, wwb, wqe, wre, wpc, wqc, wse, wdg, weg, wxe, wrc, wfc, wqd, wsc, wrd, wtc, wdj, wte, wue, wfg, wgg, wsd, wuc, whg, wve, wwe, wvc, wgc, wig, wjg, wwc, wtd, wkg, wud, wxc, wgd, wfe, wyc, wlg, wvd, Bool.false_and]) | (with_reducible (first | apply z1 | apply z2 | apply z3 | apply z4) <;> intro hq <;> (try simp only [zH] at hq) <;> (try (exfalso; omega)))))
end
end Go.Proofs.Ytjihbfdbgamcdaa
namespace Go.Proofs.Ytjihbfdbgamcdaa
open Go.Den
noncomputable section
def AmG (d g : Int) (r : Rx) (g' : Int) : Prop := (r.kind = 1 ∨ r.kind = 5 ∨ r.kind = 6) ∧ waj r d g = (true, g') ∧ (wub r : Int) ≤ 1 + 8 * (g' - g)
def AtG (d g : Int) (r : Rx) (g' : Int) : Prop := (r.kind = 1 ∨ r.kind = 4 ∨ r.kind = 5 ∨ r.kind = 6) ∧ waj r d g = (true, g') ∧ (wub r : Int) ≤ 2 + 8 * (g' - g)
def RwG (d g : Int) (r : Rx) (g' : Int) : Prop := waj r d g = (true, g') ∧ (wub r : Int) ≤ 8 + 8 * (g' - g)
theorem AmG.at {d g g' : Int} {r : Rx} (h : AmG d g r g') : AtG d g r g' := ⟨by rcases h.1 with h | h | h <;> simp [h], h.2.1, by have := h.2.2; omega⟩
theorem am_set {d g : Int} {s : BitVec 256} (hs : s ≠ 0#256) : AmG d g (.mk 1 0 0 0 s []) g := by
 refine ⟨.inl rfl, ?_, by rw [wub, wlb]; omega⟩
 have hb : wnib (.mk 1 0 0 0 s []) = true := rfl
 have hk : wcq (.mk 1 0 0 0 s []) = true := by
  show (decide ((0 : Int) = 0) && decide (s ≠ 0#256)) = true
  rw [decide_eq_true hs]; rfl
 rw [waj, if_pos hb, if_pos hk, if_neg (by decide), if_neg (by decide), wwf]
theorem at_rep {d g g' lo hi : Int} {r : Rx} (h : AmG d g r g') (l0 : 0 ≤ lo) (l1 : lo ≤ 20) (hh : hi = -1 ∨ (max lo 1 ≤ hi ∧ hi ≤ 20)) : AtG d g (.mk 4 lo hi 0 0#256 [r]) g' := by
 refine ⟨.inr (.inl rfl), ?_, by rw [wub, wlb, wlb]; have := h.2.2; omega⟩
 have hb : wnib (.mk 4 lo hi 0 0#256 [r]) = true := rfl
 have hr : repF (.mk 4 lo hi 0 0#256 [r]) = true := by
  show (decide (0 ≤ lo) && (decide (lo ≤ 20) && (decide (hi = -1) || (decide (max lo 1 ≤ hi) && decide (hi ≤ 20))))) = true
  rw [decide_eq_true l0, decide_eq_true l1, Bool.true_and, Bool.true_and]
  rcases hh with h | h
  ·rw [decide_eq_true h]; rfl
  ·rw [decide_eq_true h.1, decide_eq_true h.2, Bool.true_and, Bool.or_true]
 have hk : wcq (.mk 4 lo hi 0 0#256 [r]) = true := by
  show (decide ((([r] : List Rx).length : Int) = 1) && (([r] : List Rx).any (wnj [1, 5, 6]) && repF (.mk 4 lo hi 0 0#256 [r]))) = true
  rw [hr, List.any_cons, List.any_nil, Bool.or_false, Bool.and_true]
  have : wnj [1, 5, 6] r = true := by
   unfold wnj
   rcases h.1 with h | h | h <;> rw [h] <;> rfl
  rw [this]; rfl
 rw [waj, if_pos hb, if_pos hk, if_neg (by decide), if_neg (by decide), wwf, h.2.1, if_pos rfl, wwf]
def RsG (d : Int) : Int → List Rx → Int → Prop
 | g, [], g' => g = g'
 | g, r :: l, g' => ∃ g1, AtG d g r g1 ∧ RsG d g1 l g'
theorem RsG.walks {d : Int} : ∀ {l : List Rx} {g g' : Int}, RsG d g l g' → wwf l d g = (true, g') ∧ (wlb l : Int) ≤ 2 * l.length + 8 * (g' - g) ∧ ∀ r ∈ l, r.kind = 1 ∨ r.kind = 4 ∨ r.kind = 5 ∨ r.kind = 6 := by
 intro l
 induction l with
 | nil => intro g g' h; cases h; exact ⟨by rw [wwf], by rw [wlb]; simp, fun r hr => by cases hr⟩
 | cons a l ih =>
  intro g g' h
  obtain ⟨g1, h1, h2⟩ := h
  obtain ⟨i1, i2, i3⟩ := ih h2
  refine ⟨?_, ?_, ?_⟩
  ·rw [wwf, h1.2.1, if_pos rfl, i1]
  ·rw [wlb, List.length_cons]; have := h1.2.2; omega
  ·intro r hr
   rcases List.mem_cons.1 hr with rfl | hr
   ·exact h1.1
   ·exact i3 r hr
theorem wqzb {d : Int} : ∀ (l : List Rx) (g g' : Int) (r : Rx), wwf l d g = (true, g') → wwf (l ++ [r]) d g = (if (waj r d g').1 = true then (true, (waj r d g').2) else (false, (waj r d g').2)) := by
 intro l
 induction l with
 | nil => intro g g' r h; rw [wwf] at h; cases h; rw [List.nil_append, wwf, wwf]
 | cons a l ih =>
  intro g g' r h
  rw [wwf] at h
  rw [List.cons_append, wwf]
  by_cases ha : (waj a d g).1 = true
  ·rw [if_pos ha] at h ⊢
   exact ih _ _ _ h
  ·rw [if_neg ha] at h; cases h
theorem waub {d g g' : Int} {l : List Rx} (hw : wwf l d g = (true, g')) (hl : l.length ≠ 1) (hk : ∀ r ∈ l, r.kind ≠ 2 ∧ r.kind ≠ 3) : waj (.mk 2 0 0 0 0#256 l) d g = (true, g') := by
 have hb : wnib (.mk 2 0 0 0 0#256 l) = true := rfl
 have hk : wcq (.mk 2 0 0 0 0#256 l) = true := by
  show (decide ((l.length : Int) ≠ 1) && !(l.any (wnj [2, 3]))) = true
  rw [decide_eq_true (by omega), Bool.true_and, Bool.not_eq_true', List.any_eq_false]
  intro r hr
  unfold wnj
  have := hk r hr
  simp [this.1, this.2]
 rw [waj, if_pos hb, if_pos hk, if_neg (by decide), if_neg (by decide), hw]
theorem walk_end {d g : Int} : waj (.mk 8 0 0 0 0#256 []) d g = (true, g) := by
 have hb : wnib (.mk 8 0 0 0 0#256 []) = true := rfl
 have hk : wcq (.mk 8 0 0 0 0#256 []) = true := rfl
 rw [waj, if_pos hb, if_pos hk, if_neg (by decide), if_neg (by decide), wwf]
theorem wbub {r : Rx} (h : r.kind = 1 ∨ r.kind = 4 ∨ r.kind = 5 ∨ r.kind = 6) : r.kind ≠ 2 ∧ r.kind ≠ 3 := by omega
theorem RsG.cat {d g g' : Int} {l : List Rx} (h : RsG d g l g') (h2 : 2 ≤ l.length) : waj (.mk 2 0 0 0 0#256 l) d g = (true, g') ∧ (wub (.mk 2 0 0 0 0#256 l) : Int) ≤ 1 + 2 * l.length + 8 * (g' - g) := by
 obtain ⟨i1, i2, i3⟩ := h.walks
 refine ⟨waub i1 (by omega) fun r hr => wbub (i3 r hr), ?_⟩
 rw [wub]; omega
theorem wnrb {l : List Rx} {r : Rx} : wlb (l ++ [r]) = wlb l + wub r := by
 induction l with
 | nil => rw [List.nil_append, wlb, wlb, wlb]; omega
 | cons a l ih => rw [List.cons_append, wlb, wlb, ih]; omega
theorem RsG.end {d g g' : Int} {l : List Rx} (h : RsG d g l g') (h2 : 2 ≤ l.length) (h3 : l.length ≤ 3) : RwG d g (.mk 2 0 0 0 0#256 (l ++ [.mk 8 0 0 0 0#256 []])) g' := by
 obtain ⟨i1, i2, i3⟩ := h.walks
 refine ⟨waub ?_ (by rw [List.length_append, List.length_singleton]; omega) ?_, ?_⟩
 ·rw [wqzb _ _ _ _ i1, walk_end]; rfl
 ·intro r hr
  rcases List.mem_append.1 hr with hr | hr
  ·exact wbub (i3 r hr)
  ·rw [List.mem_singleton] at hr; subst hr
   exact ⟨by show (8 : Int) ≠ 2; decide, by show (8 : Int) ≠ 3; decide⟩
 ·rw [wub, wnrb, wub, wlb]; omega
theorem AtG.row {d g g' : Int} {r : Rx} (h : AtG d g r g') : RwG d g r g' := ⟨h.2.1, by have := h.2.2; omega⟩
end
end Go.Proofs.Ytjihbfdbgamcdaa
namespace Go.Proofs.Ytjihbfdbgamcdaa
open Go.Den
noncomputable section
end
end Go.Proofs.Ytjihbfdbgamcdaa
namespace Go.Proofs.Ytjihbfdbgamcdaa
open Go.Den
noncomputable section
theorem decT {α : Type} [DecidableEq α] {a : α} : decide (a = a) = true := decide_eq_true rfl
theorem st_get {l : List St} {i : Nat} (h : i < l.length) : l.getD i St.zero = l[i] := by
 rw [List.getD_eq_getElem?_getD, List.getElem?_eq_getElem h]; rfl
theorem wqkc (n hi : Int) (h0 : 0 ≤ hi) : 0 ≤ wkc n 0 hi ∧ wkc n 0 hi ≤ hi := by
 unfold wkc
 have h1 := Int.emod_nonneg n (show hi - 0 + 1 ≠ 0 by omega)
 have h2 := Int.emod_lt_of_pos n (show 0 < hi - 0 + 1 by omega)
 rw [Int.tmod_eq_emod]
 repeat' split
 all_goals omega
end
end Go.Proofs.Ytjihbfdbgamcdaa
namespace Go.Proofs.Ytjihbfdbgamcdaa
set_option linter.unusedVariables false
set_option linter.unusedSimpArgs false
open Go.Den
noncomputable section
theorem wrkc {S : BitVec 256} (hS : S ≠ 0#256) {lo hi : Int} (l0 : 0 ≤ lo) (l1 : lo ≤ 20) (hh : hi = -1 ∨ (max lo 1 ≤ hi ∧ hi ≤ 20)) : wep (repX lo hi S) = true := by
 unfold wep
 rw [(at_rep (d := 0) (g := 0) (am_set hS) l0 l1 hh).2.1]
 simp only [repX, setX, wub, wlb]
 rfl
theorem wskc {S : BitVec 256} {lo hi : Int} : wub (repX lo hi S) ≤ 1000000 := by simp only [repX, setX, wub, wlb]; omega
theorem AB_ne : AB ≠ 0#256 := by unfold AB; decide +kernel
end
end Go.Proofs.Ytjihbfdbgamcdaa
namespace Go.Den
noncomputable section
variable {P : Program}
def setI (k : IntKind) (l : List Int) : List (Value × Value) := l.map fun x => (.int k x, .bool true)
def wkab (x : Int) : List Int → Nat → Option (Nat × Value)
 | [], _ => none
 | y :: r, i => if x = y then some (i, .bool true) else wkab x r (i + 1)
theorem wtkc {k : IntKind} (x : Int) : ∀ (l : List Int) (i : Nat), Instr.findNow (.int k) (.int k x) (entriesOf (setI k l)) i = some (wkab x l i) := by
 intro l
 induction l with
 | nil => intro i; rfl
 | cons y l ih =>
  intro i
  show (match (if k = k then some (x == y) else none : Option Bool) with
   | some true => some (some (i, Value.bool true))
   | some false => Instr.findNow (.int k) (.int k x) (entriesOf (setI k l)) (i + 1)
   | none => none) = _
  rw [if_pos rfl]
  by_cases h : x = y
  ·rw [show (x == y) = true by simpa using h]
   simp only [wkab, if_pos h]
  ·rw [show (x == y) = false by simpa using h]
   simp only [wkab, if_neg h]
   exact ih (i + 1)
theorem worb {kt : TypeId} {k : IntKind} (ht : tyU P kt = some (.int k)) (b : Bool) (x : Int) (l : List Int) : wls P b kt (.int k x) (setI k l) = some (wkab x l 0) := by
 unfold wls
 rw [wnb]
 have h1 : ww P (Instr.checkKey b 10000 kt (.int k x)) = some () := by
  show ww P ((underlying kt).bind fun d => _) = _
  rw [wzh kt ht]
  rfl
 rw [h1, Option.bind_some]
 show ww P ((underlying kt).bind fun d => _) = _
 rw [wzh kt ht]
 simp only [wtkc]
 rfl
theorem wkz {x : Int} : ∀ {l : List Int} {i : Nat} {q : Nat × Value}, wkab x l i = some q → i ≤ q.1 ∧ q.1 - i < l.length ∧ l[q.1 - i]? = some x ∧ q.2 = .bool true ∧ x ∈ l ∧ l.eraseIdx (q.1 - i) = l.erase x := by
 intro l
 induction l with
 | nil => intro i q h; cases h
 | cons y l ih =>
  intro i q h
  simp only [wkab] at h
  by_cases hq : x = y
  ·rw [if_pos hq] at h; cases h
   subst hq
   simp
  ·rw [if_neg hq] at h
   obtain ⟨h1, h2, h3, h4, h5, h6⟩ := ih h
   have e : q.1 - i = (q.1 - (i + 1)) + 1 := by omega
   refine ⟨by omega, by rw [List.length_cons]; omega, ?_, h4, List.mem_cons_of_mem _ h5, ?_⟩
   ·rw [e, List.getElem?_cons_succ]; exact h3
   ·rw [e, List.eraseIdx_cons_succ, h6, List.erase_cons_tail (by simpa using fun h => hq h.symm)]
theorem wlz {x : Int} : ∀ {l : List Int} {i : Nat}, wkab x l i = none → x ∉ l := by
 intro l
 induction l with
 | nil => intro i _ h; cases h
 | cons y l ih =>
  intro i h
  simp only [wkab] at h
  by_cases hq : x = y
  ·rw [if_pos hq] at h; cases h
  ·rw [if_neg hq] at h
   simp only [List.mem_cons, not_or]
   exact ⟨hq, ih h⟩
theorem wko {kt : TypeId} {k : IntKind} (ht : tyU P kt = some (.int k)) {x : Int} {l : List Int} : wdfc P kt (.bool false) false (.int k x) (some (.map (setI k l))) = val (.bool (decide (x ∈ l))) := by
 show wwv false (.bool false) (wls P (setI k l).isEmpty kt (.int k x) (setI k l)) = _
 rw [worb ht]
 cases hq : wkab x l 0 with
 | none => rw [decide_eq_false (wlz hq)]; rfl
 | some q =>
  obtain ⟨_, _, _, h4, h5, _⟩ := wkz hq
  obtain ⟨j, v⟩ := q
  subst h4
  rw [decide_eq_true h5]; rfl
def putI (x : Int) (l : List Int) : List Int := if x ∈ l then l else l ++ [x]
theorem wev {kt : TypeId} {k : IntKind} (ht : tyU P kt = some (.int k)) {h : List ABlk} {r : Nat} {x : Int} {l : List Int} (hr : r < h.length) : updX P h r kt (.int k x) (.bool true) (some (.map (setI k l))) = .eff undef (HP (h.set r (.map (setI k (putI x l))))) := by
 show (bif true && Nat.blt r h.length then wdbb (HP h) r (setI k l) (.int k x) (.bool true) (wls P false kt (.int k x) (setI k l)) else .none) = _
 rw [nblt, decide_eq_true hr, Bool.and_self, cond_true, worb ht]
 unfold putI
 cases hq : wkab x l 0 with
 | none =>
  rw [if_neg (wlz hq)]
  show ARes.eff undef ((HP h).set r (.map (setI k l ++ [(.int k x, .bool true)]))) = _
  rw [wfo _ _ _ hr]
  simp [setI]
 | some q =>
  obtain ⟨j, v⟩ := q
  obtain ⟨_, h2, h3, h4, h5, _⟩ := wkz hq
  simp only [Nat.sub_zero] at h2 h3
  rw [if_pos h5]
  have e1 : (setI k l)[j]? = some (.int k x, .bool true) := by rw [setI, List.getElem?_map, h3]; rfl
  have e2 : Instr.sameBits 10000 (.int k x) (.int k x) = true := by simp [Instr.sameBits]
  show (match (setI k l)[j]? with | some e => (bif Instr.sameBits 10000 e.1 (.int k x) then ARes.eff undef ((HP h).set r (.map ((setI k l).set j (.int k x, .bool true)))) else .none) | none => .none) = _
  rw [e1]
  simp only [e2, cond_true]
  rw [wfo _ _ _ hr]
  have e3 : (setI k l).set j (.int k x, .bool true) = setI k l := by
   apply List.ext_getElem?
   intro n
   rw [List.getElem?_set]
   by_cases hn : j = n
   ·subst hn
    rw [if_pos rfl, e1]
    have : j < (setI k l).length := by rw [setI, List.length_map]; exact h2
    rw [if_pos this]
   ·rw [if_neg hn]
  rw [e3]
theorem wfv {kt : TypeId} {k : IntKind} (ht : tyU P kt = some (.int k)) {h : List ABlk} {r : Nat} {x : Int} {l : List Int} (hr : r < h.length) : delX P h r kt (.int k x) (some (.map (setI k l))) = .eff (.tuple #[]) (HP (h.set r (.map (setI k (l.erase x))))) := by
 show (bif true && Nat.blt r h.length then wjeb (HP h) r (setI k l) (wls P (setI k l).isEmpty kt (.int k x) (setI k l)) else .none) = _
 rw [nblt, decide_eq_true hr, Bool.and_self, cond_true, worb ht]
 cases hq : wkab x l 0 with
 | none =>
  rw [List.erase_of_not_mem (wlz hq)]
  show ARes.eff (.tuple #[]) ((HP h).set r (.map (setI k l))) = _
  rw [wfo _ _ _ hr]
 | some q =>
  obtain ⟨j, v⟩ := q
  obtain ⟨_, _, _, _, _, h6⟩ := wkz hq
  simp only [Nat.sub_zero] at h6
  show ARes.eff (.tuple #[]) ((HP h).set r (.map ((setI k l).eraseIdx j))) = _
  rw [wfo _ _ _ hr, setI, wvic, h6]
  rfl
theorem wcub {k : IntKind} : setI k [] = [] := rfl
theorem wgdb {k : IntKind} (l : List Int) : wmcb (setI k l) = true := by
 unfold wmcb setI
 rw [List.all_map]
 simp [Function.comp_def, wmr]
theorem wff {k : IntKind} (l : List Int) : wfab (setI k l) = [] ∧ (∀ m, renM m (setI k l) = setI k l) ∧ wyjb (setI k l) = [] :=
 ⟨wifb (wgdb l), fun _ => wslb (wgdb l), wjfb (wgdb l)⟩
theorem wvi {k : IntKind} {l : List Int} : (setI k l).length = l.length := List.length_map ..
theorem wzk {k : IntKind} (l : List Int) : beqP (setI k l) (setI k l) = true := by
 induction l with
 | nil => rfl
 | cons a l ih =>
  show (beqV (.int k a) (.int k a) && (beqV (.bool true) (.bool true) && beqP (setI k l) (setI k l))) = true
  rw [ih, wnqb, wov]
  simp
end
end Go.Den
namespace Go.Proofs.Ytjihbfdbgamcdaa
open Go.Den
noncomputable section
abbrev BC : BitVec 256 := one 98 ||| one 99
def bcN (s : List UInt8) (e : Nat) : Bool := decide (e < s.length) && hasX BC (s.getD e 0)
theorem wprb (s : List UInt8) (e : Nat) (m : Mt) : wcg s true (setX BC) ((e : Int), m) = if bcN s e = true then [((e : Int) + 1, m)] else [] := by
 rw [wrmb]
 unfold bcN
 by_cases h1 : e < s.length <;> by_cases h2 : hasX BC (s.getD e 0) = true
 ·rw [if_pos ⟨by show (e : Int) < _; omega, h2⟩, if_pos (by rw [decide_eq_true h1, Bool.true_and]; exact h2)]
 ·rw [if_neg (fun h => h2 h.2), if_neg (by rw [decide_eq_true h1, Bool.true_and]; exact h2)]
 ·rw [if_neg (fun h => h1 (by have h0 : (e : Int) < s.length := h.1; omega)), if_neg (by simp [h1])]
 ·rw [if_neg (fun h => h2 h.2), if_neg (by simp [h1])]
def stL (m : Mt) (l : List Nat) : List St := l.map fun b : Nat => ((b : Int), m)
theorem wukc {m : Mt} {l : List Nat} {b : Nat} : ((b : Int), m) ∈ stL m l ↔ b ∈ l := by
 unfold stL
 rw [List.mem_map]
 constructor
 ·rintro ⟨c, hc, he⟩
  have : (c : Int) = b := congrArg Prod.fst he
  obtain rfl : c = b := by omega
  exact hc
 ·exact fun h => ⟨b, h, rfl⟩
theorem stL_at {m : Mt} {l : List Nat} : atL (stL m l) = l.map fun b : Nat => (b : Int) := by
 unfold atL stL; rw [List.map_map]; rfl
theorem wxab {m : Mt} : ∀ (l k : List Nat), l.Nodup → (∀ b ∈ l, b ∉ k) → addF (stL m k) (stL m l) = stL m (k ++ l) := by
 intro l
 induction l with
 | nil => intro k _ _; rw [List.append_nil]; rfl
 | cons a l ih =>
  intro k hn hk
  rw [List.nodup_cons] at hn
  rw [show stL m (a :: l) = ((a : Int), m) :: stL m l from rfl, wdp, if_neg (fun h => hk a (by simp) (wukc.1 h)), show stL m k ++ [((a : Int), m)] = stL m (k ++ [a]) by unfold stL; rw [List.map_append]; rfl, ih (k ++ [a]) hn.2 ?_, List.append_assoc]; rfl
  intro b hb hin
  rcases List.mem_append.1 hin with h | h
  ·exact hk b (List.mem_cons_of_mem _ hb) h
  ·rw [List.mem_singleton] at h; subst h; exact hn.1 hb
def wzr (S : BitVec 256) (s : List UInt8) (i : Nat) : List Nat := repL S 0 (-1) (s.drop i) 0 i
theorem wtq (S : BitVec 256) (s : List UInt8) (i : Nat) : (wzr S s i).reverse = List.range' i (runX S (s.drop i) + 1) := by
 have h := repL_asc (S := S) (mn := 0) (mx := -1) i (s.drop i) 0
 rw [topX_any (by omega), show max 0 0 = 0 from rfl, show 0 + runX S (s.drop i) + 1 - 0 = runX S (s.drop i) + 1 by omega, show i + 0 = i from rfl] at h
 unfold wzr
 rw [show ((0 : Nat) : Int) = 0 from rfl] at h
 rw [h]
 apply List.ext_getElem
 ·rw [List.length_map, List.length_range', List.length_range']
 ·intro j h1 h2
  rw [List.getElem_map, List.getElem_range', List.getElem_range']; omega
theorem wyab (S : BitVec 256) (s : List UInt8) (i : Nat) : wzr S s i = (List.range' i (runX S (s.drop i) + 1)).reverse := by rw [← wtq, List.reverse_reverse]
theorem wrw (S : BitVec 256) (s : List UInt8) (i : Nat) : (wzr S s i).Nodup := by rw [wyab]; unfold List.Nodup; rw [List.pairwise_reverse]; exact List.Pairwise.imp (fun h => Ne.symm h) List.nodup_range'
theorem wvkc {S : BitVec 256} {s : List UInt8} {i b : Nat} : b ∈ wzr S s i ↔ i ≤ b ∧ b ≤ i + runX S (s.drop i) := by
 rw [wyab, List.mem_reverse, List.mem_range'_1]; omega
theorem whdb {S : BitVec 256} {s : List UInt8} {i : Nat} (hi : i ≤ s.length) : i + runX S (s.drop i) ≤ s.length := by
 have := runX_len (S := S) (s.drop i)
 rw [List.length_drop] at this; omega
abbrev wmz (S : BitVec 256) : Rx := repX 0 (-1) S
theorem widb (s : List UInt8) (hs : s.length < 100) (S : BitVec 256) (i : Nat) (m : Mt) : wcg s true (wmz S) ((i : Int), m) = stL m (wzr S s i) := by
 rw [whkc s hs]; rfl
theorem ways_alt (s : List UInt8) (hs : s.length < 100) (S : BitVec 256) (i : Nat) (m : Mt) : wcg s true (wfmb [wmz S, setX BC]) ((i : Int), m) = stL m (if bcN s i = true ∧ runX S (s.drop i) = 0 then [i, i + 1] else wzr S s i) := by
 rw [wcg, if_neg (by decide), if_neg (by decide), if_neg (by decide), if_neg (by decide), if_neg (by decide), if_pos rfl]
 simp only [altF]
 rw [widb s hs, wprb]
 have h0 : addF [] (stL m (wzr S s i)) = stL m (wzr S s i) := by
  have := wxab (m := m) (wzr S s i) [] (wrw S s i) (by simp)
  exact this
 rw [h0]
 by_cases hb : bcN s i = true
 ·rw [if_pos hb]
  by_cases hr : runX S (s.drop i) = 0
  ·rw [if_pos ⟨hb, hr⟩]
   have e : wzr S s i = [i] := by rw [wyab, hr]; rfl
   rw [e]
   rw [show [((i : Int) + 1, m)] = stL m [i + 1] from rfl, wxab [i + 1] [i] (by simp) (by simp)]; rfl
  ·rw [if_neg (fun h => hr h.2), wdp, wwab, if_pos]
   exact (wukc (m := m) (b := i + 1)).2 (wvkc.2 ⟨by omega, by omega⟩)
 ·rw [if_neg hb, if_neg (fun h => hb h.1), wwab]
theorem from_bc (s : List UInt8) (m : Mt) : ∀ (l k : List Nat), l.Nodup → (∀ b ∈ l, b + 1 ∉ k) → (stL m l).foldl (fun out y => addF out (wcg s true (setX BC) y)) (stL m k) = stL m (k ++ (l.filter (bcN s)).map (· + 1)) := by
 intro l
 induction l with
 | nil => intro k _ _; rw [List.filter_nil, List.map_nil, List.append_nil]; rfl
 | cons a l ih =>
  intro k hn hk
  rw [List.nodup_cons] at hn
  rw [show stL m (a :: l) = ((a : Int), m) :: stL m l from rfl, List.foldl_cons, wprb]
  by_cases hb : bcN s a = true
  ·rw [if_pos hb, List.filter_cons_of_pos hb, List.map_cons, show [((a : Int) + 1, m)] = stL m [a + 1] from rfl, wxab [a + 1] k (by simp) (by simpa using hk a (by simp)), ih (k ++ [a + 1]) hn.2 ?_, List.append_assoc]; rfl
   intro b hb2 hin
   rcases List.mem_append.1 hin with h | h
   ·exact hk b (List.mem_cons_of_mem _ hb2) h
   ·rw [List.mem_singleton] at h
    obtain rfl : b = a := by omega
    exact hn.1 hb2
  ·rw [if_neg hb, List.filter_cons_of_neg hb, wwab, ih k hn.2 (fun b hb2 => hk b (List.mem_cons_of_mem _ hb2))]
theorem wwkc (s : List UInt8) (hs : s.length < 100) (S : BitVec 256) (i : Nat) (m : Mt) : wcg s true (whib [wmz S, setX BC]) ((i : Int), m) = stL m (((wzr S s i).filter (bcN s)).map (· + 1)) := by
 rw [wcg, if_neg (by decide), if_neg (by decide), if_neg (by decide), if_neg (by decide), if_neg (by decide), if_neg (by decide), if_pos rfl]
 simp only [catF, wimb, List.foldl_cons, List.foldl_nil]
 rw [widb s hs]
 have h0 : addF [] (stL m (wzr S s i)) = stL m (wzr S s i) := wxab (m := m) (wzr S s i) [] (wrw S s i) (by simp)
 rw [h0]
 have h1 := from_bc s m (wzr S s i) [] (wrw S s i) (by simp)
 rw [List.nil_append] at h1
 exact h1
def intL (l : List Nat) : List Int := l.map fun b : Nat => (b : Int)
def endS (S : BitVec 256) (s : List UInt8) (i : Nat) : List Nat := List.range' i (runX S (s.drop i) + 1)
def endA (S : BitVec 256) (s : List UInt8) (i : Nat) : List Nat := if bcN s i = true ∧ runX S (s.drop i) = 0 then [i, i + 1] else endS S s i
def endR (S : BitVec 256) (s : List UInt8) (i : Nat) : List Nat := ((endS S s i).filter (bcN s)).map (· + 1)
def endY (s : List UInt8) (i : Nat) : List Nat := if bcN s i = true then [i + 1] else []
theorem intL_rev (l : List Nat) : (intL l).reverse = intL l.reverse := by unfold intL; rw [List.map_reverse]
theorem wxt {l : List Nat} (h : l.reverse.Pairwise (· < ·)) : weq (intL l) = intL l.reverse := by
 rw [wozb, intL_rev]
 unfold intL
 rw [List.pairwise_map]
 rw [List.pairwise_reverse] at h
 exact h.imp (fun hh => by show (_ : Int) > _; omega)
theorem up_at {l : List Nat} (h : l.Pairwise (· < ·)) : ∀ i, i + 1 < (intL l).length → (intL l).getD i 0 < (intL l).getD (i + 1) 0 := by
 intro i hi
 unfold intL at hi ⊢
 rw [List.length_map] at hi
 have := List.pairwise_iff_getElem.1 h i (i + 1) (by omega) hi (by omega)
 rw [List.getD_eq_getElem?_getD, List.getD_eq_getElem?_getD, List.getElem?_map, List.getElem?_map, List.getElem?_eq_getElem (by omega), List.getElem?_eq_getElem hi]
 show ((l[i] : Nat) : Int) < (l[i + 1] : Nat)
 omega
theorem wjdb (S : BitVec 256) (s : List UInt8) (i : Nat) : (endS S s i).Pairwise (· < ·) := List.pairwise_lt_range'
theorem wxkc (S : BitVec 256) (s : List UInt8) (i : Nat) : (endR S s i).Pairwise (· < ·) := by
 unfold endR
 rw [List.pairwise_map]
 exact ((wjdb S s i).filter _).imp (fun h => by omega)
theorem endA_up (S : BitVec 256) (s : List UInt8) (i : Nat) : (endA S s i).Pairwise (· < ·) := by
 unfold endA
 split
 ·simp
 ·exact wjdb S s i
theorem endY_up (s : List UInt8) (i : Nat) : (endY s i).Pairwise (· < ·) := by
 unfold endY; split <;> simp
theorem sort_two (i : Nat) : weq [(i : Int), ((i + 1 : Nat) : Int)] = [(i : Int), ((i + 1 : Nat) : Int)] := by
 rw [wumb]
 have h : ¬ ((i + 1 : Nat) : Int) < i := by omega
 simp [wsq]
 try omega
theorem wrzb (S : BitVec 256) (hS : S ≠ 0#256) : wep (wmz S) = true := wrkc hS (by omega) (by omega) (.inl rfl)
theorem wtl {l : List Nat} : (intL l).length = l.length := by unfold intL; rw [List.length_map]
theorem wvib (r : Rx) (hn : wub r ≤ 1000000) (s : List UInt8) (hs : s.length ≤ 12) (i : Nat) (hi : i ≤ s.length) (hr : wep r = true) {l e : List Nat} (hw : ∀ m : Mt, wcg s true r ((i : Int), m) = stL m l) (he : weq (intL l) = intL e) (hu : e.Pairwise (· < ·)) (hl : l.length ≤ 12) (hel : e.length = l.length) :
  lim Try.prog cfg (.call 31 [.agg ⟨rxC r⟩, str s, .bool true, .int .i64 i]) (HP []) = some (.val (FL (intL e).length (ints (intL e))), HP []) := by
 have hwa : atL (wfk r s true i) = intL l := by
  unfold wfk
  rw [if_pos ⟨hr, by omega, by omega⟩, hw, stL_at]; rfl
 have h := ev_Ends r hn s hs true i (by rw [← wpkc, hwa]; unfold intL; rw [List.length_map]; exact hl) (by rw [hwa, he]; exact up_at hu)
 rw [hwa, he] at h
 exact h
theorem wyt {S : BitVec 256} {s : List UInt8} {i : Nat} (hs : s.length ≤ 8) (hi : i ≤ s.length) : (endS S s i).length ≤ 9 := by
 unfold endS
 rw [List.length_range']
 have := whdb (S := S) hi
 omega
theorem wzt {S : BitVec 256} {s : List UInt8} {i : Nat} : (wzr S s i).length = (endS S s i).length := by rw [wyab, List.length_reverse]; rfl
theorem wvmb (S : BitVec 256) (hS : S ≠ 0#256) (s : List UInt8) (hs : s.length ≤ 8) (i : Nat) (hi : i ≤ s.length) :
  lim Try.prog cfg (.call 31 [.agg ⟨rxC (wmz S)⟩, str s, .bool true, .int .i64 i]) (HP []) = some (.val (FL (intL (endS S s i)).length (ints (intL (endS S s i)))), HP []) := by
 refine wvib _ wskc s (by omega) i hi (wrzb S hS) (fun m => widb s (by omega) S i m) ?_ (wjdb S s i) (by rw [wzt]; have := wyt (S := S) hs hi; omega) wzt.symm
 rw [wxt (by rw [wtq]; exact wjdb S s i), wtq]; rfl
theorem ends_y (s : List UInt8) (hs : s.length ≤ 8) (i : Nat) (hi : i ≤ s.length) :
  lim Try.prog cfg (.call 31 [.agg ⟨rxC (setX BC)⟩, str s, .bool true, .int .i64 i]) (HP []) = some (.val (FL (intL (endY s i)).length (ints (intL (endY s i)))), HP []) := by
 refine wvib _ (by simp only [setX, wub, wlb]; omega) s (by omega) i hi (by kernel_rfl) (l := endY s i) (fun m => ?_) ?_ (endY_up s i) (by unfold endY; split <;> simp) rfl
 ·rw [wprb]
  unfold endY
  split <;> rfl
 ·unfold endY
  split
  ·rw [wxt (by simp)]; rfl
  ·rw [wxt (by simp)]; rfl
theorem wdub (S : BitVec 256) (hr : wep (wfmb [wmz S, setX BC]) = true) (s : List UInt8) (hs : s.length ≤ 8) (i : Nat) (hi : i ≤ s.length) :
  lim Try.prog cfg (.call 31 [.agg ⟨rxC (wfmb [wmz S, setX BC])⟩, str s, .bool true, .int .i64 i]) (HP []) = some (.val (FL (intL (endA S s i)).length (ints (intL (endA S s i)))), HP []) := by
 refine wvib _ (by simp only [wmz, repX, wfmb, setX, wub, wlb]; omega) s (by omega) i hi hr (fun m => ways_alt s (by omega) S i m) ?_ (endA_up S s i) ?_ ?_
 ·unfold endA
  split
  ·exact sort_two i
  ·rw [wxt (by rw [wtq]; exact wjdb S s i), wtq]; rfl
 ·split
  ·simp
  ·rw [wzt]; have := wyt (S := S) hs hi; omega
 ·unfold endA
  split
  ·rfl
  ·exact wzt.symm
theorem weub (S : BitVec 256) (hr : wep (whib [wmz S, setX BC]) = true) (s : List UInt8) (hs : s.length ≤ 8) (i : Nat) (hi : i ≤ s.length) :
  lim Try.prog cfg (.call 31 [.agg ⟨rxC (whib [wmz S, setX BC])⟩, str s, .bool true, .int .i64 i]) (HP []) = some (.val (FL (intL (endR S s i)).length (ints (intL (endR S s i)))), HP []) := by
 have hrev : (((wzr S s i).filter (bcN s)).map (· + 1)).reverse = endR S s i := by
  unfold endR endS
  rw [← wtq, ← List.map_reverse, List.filter_reverse]
 refine wvib _ (by simp only [wmz, repX, whib, setX, wub, wlb]; omega) s (by omega) i hi hr (fun m => wwkc s (by omega) S i m) ?_ (wxkc S s i) ?_ ?_
 ·rw [wxt (by rw [hrev]; exact wxkc S s i), hrev]
 ·rw [List.length_map]
  have h1 := List.length_filter_le (bcN s) (wzr S s i)
  rw [wzt] at h1
  have := wyt (S := S) hs hi
  omega
 ·rw [← hrev, List.length_reverse]
theorem wykc {x : Int} {m : List Int} (h : x ∉ m) : putI x m = m ++ [x] := by unfold putI; rw [if_neg h]
theorem put_old {x : Int} {m : List Int} (h : x ∈ m) : putI x m = m := by unfold putI; rw [if_pos h]
def wim : List Int → List Int → List Int
 | [], m => m
 | x :: l, m => wim l (putI x m)
theorem wfub : ∀ (l m : List Nat), l.Nodup → (∀ b ∈ l, b ∉ m) → wim (intL l) (intL m) = intL (m ++ l) := by
 intro l
 induction l with
 | nil => intro m _ _; rw [List.append_nil]; rfl
 | cons a l ih =>
  intro m hn hm
  rw [List.nodup_cons] at hn
  have hna : ((a : Nat) : Int) ∉ intL m := by
   intro h
   obtain ⟨c, hc, he⟩ := List.mem_map.1 h
   have he : (c : Int) = a := he
   obtain rfl : c = a := by omega
   exact hm c (by simp) hc
  rw [show intL (a :: l) = (a : Int) :: intL l from rfl, wim, wykc hna, show intL m ++ [(a : Int)] = intL (m ++ [a]) by unfold intL; rw [List.map_append]; rfl, ih (m ++ [a]) hn.2 ?_, List.append_assoc]; rfl
  intro b hb hin
  rcases List.mem_append.1 hin with h | h
  ·exact hm b (List.mem_cons_of_mem _ hb) h
  ·rw [List.mem_singleton] at h; subst h; exact hn.1 hb
theorem in_len (S : BitVec 256) (s : List UInt8) (i : Nat) : (wim (intL (endY s i)) (wim (intL (endS S s i)) [])).length = (endA S s i).length := by
 have h1 := wfub (endS S s i) [] List.nodup_range' (by simp)
 rw [List.nil_append, show intL [] = [] from rfl] at h1
 rw [h1]
 unfold endY endA
 by_cases hb : bcN s i = true
 ·rw [if_pos hb]
  show (putI ((i + 1 : Nat) : Int) (intL (endS S s i))).length = _
  by_cases hr : runX S (s.drop i) = 0
  ·rw [if_pos ⟨hb, hr⟩]
   have e : endS S s i = [i] := by unfold endS; rw [hr]; rfl
   rw [e, wykc (by simp [intL]; omega)]; rfl
  ·rw [if_neg (fun h => hr h.2), put_old]
   ·unfold intL; rw [List.length_map]
   ·unfold intL endS
    exact List.mem_map.2 ⟨i + 1, by rw [List.mem_range'_1]; omega, rfl⟩
 ·rw [if_neg hb, if_neg (fun h => hb h.1)]
  show (intL (endS S s i)).length = _
  unfold intL; rw [List.length_map]
def wwmb (s : List UInt8) : List Nat → List Int → List Int
 | [], m => m
 | e :: l, m => wwmb s l (wim (intL (endY s e)) m)
theorem both_new (s : List UInt8) : ∀ (l m : List Nat), l.Nodup → (∀ b ∈ l, b + 1 ∉ m) → wwmb s l (intL m) = intL (m ++ (l.filter (bcN s)).map (· + 1)) := by
 intro l
 induction l with
 | nil => intro m _ _; rw [List.filter_nil, List.map_nil, List.append_nil]; rfl
 | cons a l ih =>
  intro m hn hm
  rw [List.nodup_cons] at hn
  rw [wwmb]
  unfold endY
  by_cases hb : bcN s a = true
  ·rw [if_pos hb, List.filter_cons_of_pos hb, List.map_cons, wfub [a + 1] m (by simp) (by simpa using hm a (by simp)), ih (m ++ [a + 1]) hn.2 ?_, List.append_assoc]; rfl
   intro b hb2 hin
   rcases List.mem_append.1 hin with h | h
   ·exact hm b (List.mem_cons_of_mem _ hb2) h
   ·rw [List.mem_singleton] at h
    obtain rfl : b = a := by omega
    exact hn.1 hb2
  ·rw [if_neg hb, List.filter_cons_of_neg hb, show intL [] = [] from rfl, wim, ih m hn.2 (fun b hb2 => hm b (List.mem_cons_of_mem _ hb2))]
theorem wgub (S : BitVec 256) (s : List UInt8) (i : Nat) : wwmb s (endS S s i) [] = intL (endR S s i) := by
 have h := both_new s (endS S s i) [] List.nodup_range' (by simp)
 rw [List.nil_append, show intL [] = [] from rfl] at h
 exact h
theorem wszb (l : List Int) (j : Nat) (h : j < l.length) : (l.drop j).erase (l.getD j 0) = l.drop (j + 1) ∧ l.getD j 0 ∈ l.drop j := by
 rw [List.drop_eq_getElem_cons h, List.getD_eq_getElem?_getD, List.getElem?_eq_getElem h]
 exact ⟨List.erase_cons_head .., List.mem_cons_self ..⟩
def wlQ (i : Int) (x : St) : Prop := i ≤ x.1 ∧ ∀ g : Nat, 1 ≤ g → g ≤ 3 → (x.2.at (g * 2) = -1 ∧ x.2.at (g * 2 + 1) = -1) ∨ (i ≤ x.2.at (g * 2) ∧ x.2.at (g * 2) ≤ x.2.at (g * 2 + 1) ∧ x.2.at (g * 2 + 1) ≤ x.1)
theorem wzkc (r : Rx) (s : List UInt8) (i : Nat) (hi : i ≤ s.length) : ∀ y ∈ wfk r s true i, GdS s.length y ∧ wlQ i y := by
 intro y hy
 unfold wfk at hy
 split at hy
 ·rename_i h
  have hok := wqib h.1
  have hg : GdS s.length ((i : Int), wrv) := wxjc (by omega) (by omega)
  have hr := (wwu (s := s) rfl (bol := true) r hok _ hg).good y hy
  refine ⟨hr.1, ?_⟩
  refine ways_inv (Q := fun x => wlQ i x) (len := s.length) (s := s) (bol := true) rfl ?_ ?_ r hok _ hg ?_ y hy
  ·rintro x a ⟨h1, h2⟩ ha
   refine ⟨by show _ ≤ a; omega, fun g g1 g3 => ?_⟩
   rcases h2 g g1 g3 with h | h
   ·exact .inl h
   ·refine .inr ⟨h.1, h.2.1, ?_⟩
    show x.2.at (g * 2 + 1) ≤ a
    have := h.2.2; omega
  ·rintro x y n ⟨h1, h2⟩ ⟨h3, h4⟩ hxy n1 n3
   refine ⟨h3, fun g g1 g3 => ?_⟩
   show (Mt.at _ (g * 2) = -1 ∧ Mt.at _ (g * 2 + 1) = -1) ∨ ((i : Int) ≤ Mt.at _ (g * 2) ∧ Mt.at _ (g * 2) ≤ Mt.at _ (g * 2 + 1) ∧ Mt.at _ (g * 2 + 1) ≤ y.1)
   rw [Mt.at_put, Mt.at_put, Mt.at_put, Mt.at_put]
   by_cases h : n.toNat = g
   ·rw [if_neg (by omega), if_pos (by omega), if_pos (by omega)]
    exact .inr ⟨h1, hxy, Int.le_refl _⟩
   ·rw [if_neg (by omega), if_neg (by omega), if_neg (by omega), if_neg (by omega)]
    exact h4 g g1 g3
  ·refine ⟨Int.le_refl _, fun g g1 g3 => .inl ?_⟩
   have := hg.sp g g1 g3
   unfold wntb at this
   rcases (show g = 1 ∨ g = 2 ∨ g = 3 by omega) with rfl | rfl | rfl <;> exact ⟨rfl, rfl⟩
 ·cases hy
end
end Go.Proofs.Ytjihbfdbgamcdaa
namespace Go.Den
noncomputable section
variable {P : Program}
theorem wqrb (z : Value) : ∀ n, wuh [z] n = List.replicate n z := by
 intro n
 induction n with
 | zero => rfl
 | succ n ih => rw [wuh, ih, List.replicate_succ]; rfl
theorem wtzb {z : Value} (hz : wmf z = true) : ∀ n, wqb (List.replicate n z) = true := by
 intro n
 induction n with
 | zero => rfl
 | succ n ih => rw [List.replicate_succ]; show (wmf z && wqb (List.replicate n z)) = true; rw [hz, ih]; rfl
theorem mk_one {elem bytes fresh : Nat} {z : Value} (hz : wmf z = true) {l c : Nat} (hl : l ≤ c) (hc : c ≤ 16777216) (hb : bytes ≤ 1048576) :
  wbu elem 1 bytes [z] fresh (some l) (some c) = .simple (.slice (some ⟨fresh, 0, none⟩) l (c + 1)) (some (X (List.replicate c z) elem 0 true)) := by
 show (bif Nat.ble l c && roomy c bytes then ARes.simple (.slice (some ⟨fresh, 0, none⟩) l (c + 1)) (some (exact (wuh [z] c) elem)) else .none) = _
 unfold roomy
 rw [nble, nble, nble, decide_eq_true hl, decide_eq_true hc, decide_eq_true hb, wqrb, wcdc, wtzb hz]
 rfl
end
end Go.Den
namespace Go.Den
set_option linter.unusedVariables false
set_option linter.unusedSimpArgs false
noncomputable section
def lenMX : Option ABlk → ARes
 | some (.map es) => val (.int .i64 es.length)
 | _ => .none
theorem lenM_HP {h : List ABlk} (hh : h.length ≤ 1099511627774) {r : Nat} : wdpb (HP h) (.map (some r)) = lenMX h[r]? := by
 show (match (HP h).get r with
  | some (.map es) => val (.int .i64 es.length)
  | _ => .none) = _
 rw [wyg h hh]
 cases h[r]? with
 | none => rfl
 | some b => cases b <;> rfl
theorem lenM_S {es : List (Value × Value)} : lenMX (some (.map es)) = val (.int .i64 es.length) := rfl
def slAX (size : Nat) (a : Addr) (n : Nat) : Option Nat → Option Nat → ARes
 | some l, some h => wtv size a n l h
 | _, _ => .none
theorem wxmb {e : Env} {n size : Nat} {a : Addr} {x : Operand} : slAA e n size (.pointer (some a)) (some x) none = slAX size a n (wom (evl e x)) (some n) := by
 show (match wom (evl e x), some n with
  | some l, some h => wtv size a n l h
  | _, _ => .none) = _
 cases wom (evl e x) <;> rfl
theorem wuzb : (true == true) = true := rfl
theorem wvzb : (false == false) = true := rfl
theorem wwzb : (true == false) = false := rfl
theorem wxzb : (false == true) = false := rfl
theorem wymb {i : Nat} : slAX 2 ⟨i, 1, none⟩ 4 (some 1) (some 4) = val (.slice (some ⟨i, 3, none⟩) 3 4) := rfl
end
end Go.Den
namespace Go.Proofs.Ytjihbfdbgamcdaa
open Go.Den
noncomputable section
theorem i64T : tyU Try.prog 3 = some (.int .i64) := by kernel_rfl
abbrev RXT : Nat := 46
abbrev wlB (l1 l2 : List Int) : ABlk := X [FL l1.length (ints l1), FL l2.length (ints l2)] 40 0 true
abbrev rxP (k mx : Int) (b n : Nat) : List Value := [.int .i64 k, .int .i64 0, .int .i64 mx, .int .i64 0, .int .u64 0, .int .u64 0, .int .u64 0, .int .u64 0, .slice (some ⟨b, 0, none⟩) n (n + 1)]
abbrev yBk : ABlk := X (rxM BC) RXT 0 false
abbrev wl0H (l1 l2 : List Int) (S : BitVec 256) (K : List Int) : List ABlk := [wlB l1 l2, yBk, X (rxP 4 (-1) 6 1) RXT 0 false, X (rxP 3 0 7 2) RXT 0 false, X (rxP 2 0 8 2) RXT 0 false, .map (setI .i64 K), X (rxM S) RXT 9 false, X (rxP 4 (-1) 6 1 ++ rxM BC) RXT 0 false, X (rxP 4 (-1) 6 1 ++ rxM BC) RXT 0 false]
abbrev wl2H (l1 l2 : List Int) (S : BitVec 256) (K : List Int) : List ABlk := [wlB l1 l2, yBk, X (rxP 2 0 4 2) RXT 0 false, .map (setI .i64 K), X (rxP 4 (-1) 5 1 ++ rxM BC) RXT 0 false, X (rxM S) RXT 9 false]
abbrev wl3H (l1 l2 : List Int) (S : BitVec 256) (K : List Int) : List ABlk := [wlB l1 l2, X (rxP 2 0 3 2) RXT 0 false, .map (setI .i64 K), X (rxP 4 (-1) 4 1 ++ rxM BC) RXT 0 false, X (rxM S) RXT 9 false]
set_option maxHeartbeats 8000000 in
theorem wl_0 (l1 l2 : List Int) (S : BitVec 256) (s : List UInt8) (i : Int) (E : List Int) (hE : E.length ≤ 100) : ∀ (k j : Nat) (K : List Int), j + k = E.length →
  lim Try.prog cfg (.loop 7 0 (wdb 0) (SE (EJ 246 G0) [(81, .int .i64 j), (80, .int .i64 E.length), (79, FL E.length (ints E)), (17, .map (some 5)), (16, .pointer (some ⟨4, 0, none⟩)), (15, .pointer (some ⟨3, 0, none⟩)), (14, .pointer (some ⟨2, 0, none⟩)), (12, .pointer (some ⟨1, 0, none⟩)), (10, .int .i64 i), (9, str s), (5, .pointer (some ⟨0, 0, none⟩))])) (HP (wl0H l1 l2 S K)) = some (.code (.exit 0) (SE (EJ 246 G0) [(17, .map (some 5)), (16, .pointer (some ⟨4, 0, none⟩)), (15, .pointer (some ⟨3, 0, none⟩)), (14, .pointer (some ⟨2, 0, none⟩)), (12, .pointer (some ⟨1, 0, none⟩)), (10, .int .i64 i), (9, str s), (5, .pointer (some ⟨0, 0, none⟩))]), HP (wl0H l1 l2 S (wim (E.drop j) K))) := by
 intro k
 induction k with
 | zero =>
  intro j K hj
  rw [List.drop_of_length_le (by omega), wim]
  refine web whl ?_
  unfold wrj
  (repeat' (first | (simp -implicitDefEqProofs (maxSteps := 2000000) (disch := first | with_reducible assumption | omega | (simp only [zS, zA, seval, wkd, wff, wob, wfb, wzk, zD] <;> omega) | fail) only [zS, argl, insA, Go.Den.wm, wo, wu, looks, wab, wz, idOf, riA, seval, Go.Den.wh, kK, wxj, wfb, wko i64T, wev i64T, wfv i64T, wob, wvi, wff, wcb, wgb, *, zT]) | (with_reducible (first | apply z1 | apply z2 | apply z3 | apply z4) <;> intro hq <;> (try simp only [zH] at hq) <;> (try (exfalso; omega)))))
  all_goals rfl
 | succ k ih =>
  intro j K hj
  have hlt : j < E.length := by omega
  have h := ih (j + 1) (putI (E.getD j 0) K) (by omega)
  have hg := wkj hlt
  have hd : E.drop j = E.getD j 0 :: E.drop (j + 1) := by
   rw [List.drop_eq_getElem_cons hlt, List.getD_eq_getElem?_getD, List.getElem?_eq_getElem hlt]; rfl
  rw [hd, wim]
  clear ih hd
  generalize wim (E.drop (j + 1)) (putI (E.getD j 0) K) = K2 at *
  generalize E.getD j 0 = x at *
  refine web whl ?_
  unfold wrj
  (repeat' (first | (simp -implicitDefEqProofs (maxSteps := 2000000) (disch := first | with_reducible assumption | omega | (simp only [zS, zA, seval, wkd, wff, wob, wfb, wzk, zD] <;> omega) | fail) only [zS, argl, insA, Go.Den.wm, wo, wu, looks, wab, wz, idOf, riA, seval, Go.Den.wh, kK, wxj, wfb, wko i64T, wev i64T, wfv i64T, wob, wvi, wff, wcb, wgb, *, zT]) | (with_reducible (first | apply z1 | apply z2 | apply z3 | apply z4) <;> intro hq <;> (try simp only [zH] at hq) <;> (try (exfalso; omega)))))
  all_goals exact h
set_option maxHeartbeats 8000000 in
theorem wl_1 (l1 l2 : List Int) (S : BitVec 256) (s : List UInt8) (i : Int) (E : List Int) (hE : E.length ≤ 100) : ∀ (k j : Nat) (K : List Int), j + k = E.length →
  lim Try.prog cfg (.loop 7 0 (wdb 1) (SE (EJ 246 G0) [(93, .int .i64 j), (92, .int .i64 E.length), (91, FL E.length (ints E)), (17, .map (some 5)), (16, .pointer (some ⟨4, 0, none⟩)), (15, .pointer (some ⟨3, 0, none⟩)), (14, .pointer (some ⟨2, 0, none⟩)), (12, .pointer (some ⟨1, 0, none⟩)), (10, .int .i64 i), (9, str s), (5, .pointer (some ⟨0, 0, none⟩))])) (HP (wl0H l1 l2 S K)) = some (.code (.exit 2) (SE (EJ 246 G0) [(17, .map (some 5)), (16, .pointer (some ⟨4, 0, none⟩)), (15, .pointer (some ⟨3, 0, none⟩)), (14, .pointer (some ⟨2, 0, none⟩)), (12, .pointer (some ⟨1, 0, none⟩)), (10, .int .i64 i), (9, str s), (5, .pointer (some ⟨0, 0, none⟩))]), HP (wl0H l1 l2 S (wim (E.drop j) K))) := by
 intro k
 induction k with
 | zero =>
  intro j K hj
  rw [List.drop_of_length_le (by omega), wim]
  refine web wil ?_
  unfold wsj
  (repeat' (first | (simp -implicitDefEqProofs (maxSteps := 2000000) (disch := first | with_reducible assumption | omega | (simp only [zS, zA, seval, wkd, wff, wob, wfb, wzk, zD] <;> omega) | fail) only [zS, argl, insA, Go.Den.wm, wo, wu, looks, wab, wz, idOf, riA, seval, Go.Den.wh, kK, wyj, wfb, wko i64T, wev i64T, wfv i64T, wob, wvi, wff, wcb, wgb, *, zT]) | (with_reducible (first | apply z1 | apply z2 | apply z3 | apply z4) <;> intro hq <;> (try simp only [zH] at hq) <;> (try (exfalso; omega)))))
  all_goals rfl
 | succ k ih =>
  intro j K hj
  have hlt : j < E.length := by omega
  have h := ih (j + 1) (putI (E.getD j 0) K) (by omega)
  have hg := wkj hlt
  have hd : E.drop j = E.getD j 0 :: E.drop (j + 1) := by
   rw [List.drop_eq_getElem_cons hlt, List.getD_eq_getElem?_getD, List.getElem?_eq_getElem hlt]; rfl
  rw [hd, wim]
  clear ih hd
  generalize wim (E.drop (j + 1)) (putI (E.getD j 0) K) = K2 at *
  generalize E.getD j 0 = x at *
  refine web wil ?_
  unfold wsj
  (repeat' (first | (simp -implicitDefEqProofs (maxSteps := 2000000) (disch := first | with_reducible assumption | omega | (simp only [zS, zA, seval, wkd, wff, wob, wfb, wzk, zD] <;> omega) | fail) only [zS, argl, insA, Go.Den.wm, wo, wu, looks, wab, wz, idOf, riA, seval, Go.Den.wh, kK, wyj, wfb, wko i64T, wev i64T, wfv i64T, wob, wvi, wff, wcb, wgb, *, zT]) | (with_reducible (first | apply z1 | apply z2 | apply z3 | apply z4) <;> intro hq <;> (try simp only [zH] at hq) <;> (try (exfalso; omega)))))
  all_goals exact h
set_option maxHeartbeats 8000000 in
theorem wl_3 (l1 l2 : List Int) (S : BitVec 256) (s : List UInt8) (i : Int) (E : List Int) (hE : E.length ≤ 100) (A : List Int) (a : Int) : ∀ (k j : Nat) (K : List Int), j + k = E.length →
  lim Try.prog cfg (.loop 7 0 (wdb 3) (SE (EJ 246 G0) [(123, .int .i64 j), (122, .int .i64 E.length), (121, FL E.length (ints E)), (114, .int .i64 a), (113, .int .i64 A.length), (112, FL A.length (ints A)), (22, .map (some 3)), (16, .pointer (some ⟨2, 0, none⟩)), (12, .pointer (some ⟨1, 0, none⟩)), (10, .int .i64 i), (9, str s), (5, .pointer (some ⟨0, 0, none⟩))])) (HP (wl2H l1 l2 S K)) = some (.code (.exit 6) (SE (EJ 246 G0) [(114, .int .i64 a), (113, .int .i64 A.length), (112, FL A.length (ints A)), (22, .map (some 3)), (16, .pointer (some ⟨2, 0, none⟩)), (12, .pointer (some ⟨1, 0, none⟩)), (10, .int .i64 i), (9, str s), (5, .pointer (some ⟨0, 0, none⟩))]), HP (wl2H l1 l2 S (wim (E.drop j) K))) := by
 intro k
 induction k with
 | zero =>
  intro j K hj
  rw [List.drop_of_length_le (by omega), wim]
  refine web wjl ?_
  unfold wtj
  (repeat' (first | (simp -implicitDefEqProofs (maxSteps := 2000000) (disch := first | with_reducible assumption | omega | (simp only [zS, zA, seval, wkd, wff, wob, wfb, wzk, zD] <;> omega) | fail) only [zS, argl, insA, Go.Den.wm, wo, wu, looks, wab, wz, idOf, riA, seval, Go.Den.wh, kK, wrh, wfb, wko i64T, wev i64T, wfv i64T, wob, wvi, wff, wcb, wgb, *, zT]) | (with_reducible (first | apply z1 | apply z2 | apply z3 | apply z4) <;> intro hq <;> (try simp only [zH] at hq) <;> (try (exfalso; omega)))))
  all_goals rfl
 | succ k ih =>
  intro j K hj
  have hlt : j < E.length := by omega
  have h := ih (j + 1) (putI (E.getD j 0) K) (by omega)
  have hg := wkj hlt
  have hd : E.drop j = E.getD j 0 :: E.drop (j + 1) := by
   rw [List.drop_eq_getElem_cons hlt, List.getD_eq_getElem?_getD, List.getElem?_eq_getElem hlt]; rfl
  rw [hd, wim]
  clear ih hd
  generalize wim (E.drop (j + 1)) (putI (E.getD j 0) K) = K2 at *
  generalize E.getD j 0 = x at *
  refine web wjl ?_
  unfold wtj
  (repeat' (first | (simp -implicitDefEqProofs (maxSteps := 2000000) (disch := first | with_reducible assumption | omega | (simp only [zS, zA, seval, wkd, wff, wob, wfb, wzk, zD] <;> omega) | fail) only [zS, argl, insA, Go.Den.wm, wo, wu, looks, wab, wz, idOf, riA, seval, Go.Den.wh, kK, wrh, wfb, wko i64T, wev i64T, wfv i64T, wob, wvi, wff, wcb, wgb, *, zT]) | (with_reducible (first | apply z1 | apply z2 | apply z3 | apply z4) <;> intro hq <;> (try simp only [zH] at hq) <;> (try (exfalso; omega)))))
  all_goals exact h
end
end Go.Proofs.Ytjihbfdbgamcdaa
namespace Go.Proofs.Ytjihbfdbgamcdaa
set_option linter.unusedVariables false
set_option linter.unusedSimpArgs false
open Go.Den
noncomputable section
theorem wzmb : (EJ 246 G0).get 8 = JK := rfl
theorem wyzb {x : St} {g : Nat} (h : g < 3) : slotsOf (stC x) (3 + g * 2) 2 = [.int .i64 (x.2.at ((g + 1) * 2)), .int .i64 (x.2.at ((g + 1) * 2 + 1))] := by
 obtain ⟨a, ⟨l, hl⟩⟩ := x
 match l, hl with
 | [x0, x1, x2, x3, x4, x5, x6, x7], _ =>
  rcases (show g = 0 ∨ g = 1 ∨ g = 2 by omega) with rfl | rfl | rfl <;> rfl
theorem walc {x : St} : slotsOf (stC x) 1 2 = [.int .i64 (x.2.at 0), .int .i64 (x.2.at 1)] := by
 obtain ⟨a, ⟨l, hl⟩⟩ := x
 match l, hl with
 | [x0, x1, x2, x3, x4, x5, x6, x7], _ => rfl
set_option maxHeartbeats 8000000 in
theorem wl_2 (l1 l2 : List Int) (S : BitVec 256) (s : List UInt8) (hs : s.length ≤ 8) (i : Int) (L : List Nat) (hL : L.length ≤ 100) (hm : ∀ e ∈ L, e ≤ s.length) : ∀ (k j : Nat) (K : List Int), j + k = L.length →
  lim Try.prog cfg (.loop 7 0 (wdb 2) (SE (EJ 246 G0) [(114, .int .i64 j), (113, .int .i64 (intL L).length), (112, FL (intL L).length (ints (intL L))), (22, .map (some 3)), (16, .pointer (some ⟨2, 0, none⟩)), (12, .pointer (some ⟨1, 0, none⟩)), (10, .int .i64 i), (9, str s), (5, .pointer (some ⟨0, 0, none⟩))])) (HP (wl2H l1 l2 S K)) = some (.code (.exit 4) (SE (EJ 246 G0) [(22, .map (some 2)), (16, .pointer (some ⟨1, 0, none⟩)), (10, .int .i64 i), (9, str s), (5, .pointer (some ⟨0, 0, none⟩))]), HP (wl3H l1 l2 S (wwmb s (L.drop j) K))) := by
 intro k
 induction k with
 | zero =>
  intro j K hj
  have hl := wtl (l := L)
  rw [List.drop_of_length_le (by omega), wwmb]
  generalize intL L = A at *
  refine web wkl ?_
  unfold wuj
  (repeat' (first | (simp -implicitDefEqProofs (maxSteps := 2000000) (disch := first | with_reducible assumption | omega | (simp only [zS, zA, seval, wkd, wff, wob, wfb, wzk, zD] <;> omega) | fail) only [zS, argl, insA, Go.Den.wm, wo, wu, looks, wab, wz, idOf, riA, seval, Go.Den.wh, kK, wzj, wrh, wfb, wko i64T, wev i64T, wfv i64T, wob, wvi, wff, wcb, wgb, *, zT]) | (with_reducible (first | apply z1 | apply z2 | apply z3 | apply z4) <;> intro hq <;> (try simp only [zH] at hq) <;> (try (exfalso; omega)))))
  all_goals rfl
 | succ k ih =>
  intro j K hj
  have hlt : j < L.length := by omega
  have hl := wtl (l := L)
  have hx : L.getD j 0 ≤ s.length := hm _ (by rw [List.getD_eq_getElem?_getD, List.getElem?_eq_getElem hlt]; exact List.getElem_mem hlt)
  have h := ih (j + 1) (wim (intL (endY s (L.getD j 0))) K) (by omega)
  have hg := wkj (l := intL L) (i := j) (by omega)
  have hgx : (intL L).getD j 0 = ((L.getD j 0 : Nat) : Int) := by
   unfold intL
   rw [List.getD_eq_getElem?_getD, List.getElem?_map, List.getElem?_eq_getElem hlt, List.getD_eq_getElem?_getD, List.getElem?_eq_getElem hlt]; rfl
  rw [hgx] at hg
  have hd : L.drop j = L.getD j 0 :: L.drop (j + 1) := by
   rw [List.drop_eq_getElem_cons hlt, List.getD_eq_getElem?_getD, List.getElem?_eq_getElem hlt]; rfl
  rw [hd, wwmb]
  have hy := ends_y s hs (L.getD j 0) hx
  rw [wut] at hy
  have hyl : (intL (endY s (L.getD j 0))).length ≤ 1 := by rw [wtl]; unfold endY; split <;> simp
  have h3 := wl_3 l1 l2 S s i (intL (endY s (L.getD j 0))) (by omega) (intL L) j (intL (endY s (L.getD j 0))).length 0 K (by omega)
  rw [List.drop_zero, show ((0 : Nat) : Int) = 0 from rfl] at h3
  simp only [wl2H, rxP, rxM, wlB, yBk, List.cons_append, List.nil_append] at h3
  have hj2 : j < (intL L).length := by omega
  have hj3 : (intL L).length ≤ 100 := by omega
  rw [← hl] at hj
  clear ih hd hm hgx hl hlt hL
  generalize wwmb s (L.drop (j + 1)) (wim (intL (endY s (L.getD j 0))) K) = K2 at *
  generalize wim (intL (endY s (L.getD j 0))) K = K1 at *
  generalize intL (endY s (L.getD j 0)) = E at *
  generalize L.getD j 0 = x at *
  generalize intL L = A at *
  refine web wkl ?_
  unfold wuj
  (repeat' (first | (simp -implicitDefEqProofs (maxSteps := 2000000) (disch := first | with_reducible assumption | omega | (simp only [zS, zA, seval, wkd, wff, wob, wfb, wzk, zD] <;> omega) | fail) only [zS, argl, insA, Go.Den.wm, wo, wu, looks, wab, wz, idOf, riA, seval, Go.Den.wh, kK, wzj, wrh, wfb, wko i64T, wev i64T, wfv i64T, wob, wvi, wff, wcb, wgb, *, zT]) | (with_reducible (first | apply z1 | apply z2 | apply z3 | apply z4) <;> intro hq <;> (try simp only [zH] at hq) <;> (try (exfalso; omega)))))
  all_goals first | exact h | rfl | trace_state
set_option maxHeartbeats 8000000 in
theorem wl_4 (l1 l2 : List Int) (s : List UInt8) (i : Int) (R : List Int) (hR : R.length ≤ 100) : ∀ (k j : Nat), j + k = R.length →
  lim Try.prog cfg (.loop 7 0 (wdb 4) (SE (EJ 246 G0) [(136, .int .i64 j), (135, .int .i64 R.length), (134, FL R.length (ints R)), (22, .map (some 1)), (10, .int .i64 i), (9, str s), (5, .pointer (some ⟨0, 0, none⟩))])) (HP [wlB l1 l2, .map (setI .i64 (R.drop j))]) = some (.code (.exit 8) (SE (EJ 246 G0) [(22, .map (some 1)), (10, .int .i64 i), (9, str s), (8, JK), (5, .pointer (some ⟨0, 0, none⟩))]), HP [wlB l1 l2, .map (setI .i64 [])]) := by
 intro k
 induction k with
 | zero =>
  intro j hj
  rw [List.drop_of_length_le (by omega)]
  refine web wll ?_
  unfold wvj
  (repeat' (first | (simp -implicitDefEqProofs (maxSteps := 2000000) (disch := first | with_reducible assumption | omega | (simp only [zS, zA, seval, wkd, wff, wob, wfb, wzk, wyb, wbd, zD] <;> omega) | fail) only [zS, argl, insA, Go.Den.wm, wo, wu, looks, wab, wz, idOf, riA, seval, Go.Den.wh, kK, wak, wfb, wko i64T, wev i64T, wfv i64T, wob, wvi, wff, wcb, wgb, wyb, wbd, wzmb, *, zT]) | (with_reducible (first | apply z1 | apply z2 | apply z3 | apply z4) <;> intro hq <;> (try simp only [zH] at hq) <;> (try (exfalso; omega)))))
  all_goals rfl
 | succ k ih =>
  intro j hj
  have hlt : j < R.length := by omega
  have h := ih (j + 1) (by omega)
  have hg := wkj hlt
  obtain ⟨he, hm⟩ := wszb R j hlt
  have hm2 := decide_eq_true hm
  clear ih hm
  generalize R.getD j 0 = x at *
  generalize R.drop (j + 1) = D2 at *
  generalize R.drop j = D at *
  refine web wll ?_
  unfold wvj
  (repeat' (first | (simp -implicitDefEqProofs (maxSteps := 2000000) (disch := first | with_reducible assumption | omega | (simp only [zS, zA, seval, wkd, wff, wob, wfb, wzk, wyb, wbd, zD] <;> omega) | fail) only [zS, argl, insA, Go.Den.wm, wo, wu, looks, wab, wz, idOf, riA, seval, Go.Den.wh, kK, wak, wfb, wko i64T, wev i64T, wfv i64T, wob, wvi, wff, wcb, wgb, wyb, wbd, wzmb, *, zT]) | (with_reducible (first | apply z1 | apply z2 | apply z3 | apply z4) <;> intro hq <;> (try simp only [zH] at hq) <;> (try (exfalso; omega)))))
  all_goals first | exact h | rfl | trace_state
set_option maxHeartbeats 8000000 in
theorem wl_6 (r : Rx) (s z : List UInt8) (i : Nat) (hi : i ≤ 12) (l : List St) (a : Int) (x : St) (hx0 : 0 ≤ x.1) (hx1 : x.1 ≤ 12) (hx : wlQ i x) : ∀ (k g : Nat), g + k = 3 →
  lim Try.prog cfg (.loop 7 0 (wdb 6) (SE (EJ 246 G0) [(181, .int .i64 g), (180, .int .i64 3), (179, .slice (some ⟨2, 3, none⟩) 3 4), (156, .int .i64 a), (155, .int .i64 l.length), (154, FL l.length (stsC l)), (32, .pointer (some ⟨2, 0, none⟩)), (30, str z), (29, .pointer (some ⟨1, 0, none⟩)), (22, .map (some 0)), (10, .int .i64 i), (9, str s)])) (HP [.map (setI .i64 []), X (rxC r) RXT 0 false, X (stC x) 81 0 true]) = some (.code (.exit 12) (SE (EJ 246 G0) [(156, .int .i64 a), (155, .int .i64 l.length), (154, FL l.length (stsC l)), (30, str z), (29, .pointer (some ⟨1, 0, none⟩)), (22, .map (some 0)), (10, .int .i64 i), (9, str s), (8, JK)]), HP [.map (setI .i64 []), X (rxC r) RXT 0 false]) := by
 intro k
 induction k with
 | zero =>
  intro g hg
  obtain rfl : g = 3 := by omega
  clear hx
  rw [show ((3 : Nat) : Int) = 3 from rfl]
  refine web wni ?_
  unfold wqh
  (repeat' (first | (simp -implicitDefEqProofs (maxSteps := 2000000) (disch := first | with_reducible assumption | omega | (simp only [zS, zA, seval, wkd, wff, wob, wfb, wzk, wyb, wbd, wrt, weib, zD] <;> omega) | fail) only [zS, argl, insA, Go.Den.wm, wo, wu, looks, wab, wz, idOf, riA, seval, Go.Den.wh, kK, wtf, wfb, wko i64T, wev i64T, wfv i64T, wob, wvi, wff, wcb, wgb, wyb, wbd, wzmb, wyzb, walc, wxmb, wymb, neq2, decT, Bool.and_self, Bool.not_true, wuzb, wvzb, wwzb, wxzb, *, zT]) | (with_reducible (first | apply z1 | apply z2 | apply z3 | apply z4) <;> intro hq <;> (try simp only [zH] at hq) <;> (try (exfalso; omega)))))
  all_goals rfl
 | succ k ih =>
  intro g hg
  have h := ih (g + 1) (by omega)
  have hs := wyzb (x := x) (g := g) (by omega)
  have hq := hx.2 (g + 1) (by omega) (by omega)
  have hx2 := hx.1
  clear ih hx
  generalize x.2.at ((g + 1) * 2) = p at *
  generalize x.2.at ((g + 1) * 2 + 1) = q at *
  rcases hq with ⟨rfl, rfl⟩ | ⟨h1, h2, h3⟩
  ·refine web wni ?_
   unfold wqh
   (repeat' (first | (simp -implicitDefEqProofs (maxSteps := 2000000) (disch := first | with_reducible assumption | omega | (simp only [zS, zA, seval, wkd, wff, wob, wfb, wzk, wyb, wbd, wrt, weib, zD] <;> omega) | fail) only [zS, argl, insA, Go.Den.wm, wo, wu, looks, wab, wz, idOf, riA, seval, Go.Den.wh, kK, wtf, wfb, wko i64T, wev i64T, wfv i64T, wob, wvi, wff, wcb, wgb, wyb, wbd, wzmb, wyzb, walc, wxmb, wymb, neq2, decT, Bool.and_self, Bool.not_true, wuzb, wvzb, wwzb, wxzb, *, zT]) | (with_reducible (first | apply z1 | apply z2 | apply z3 | apply z4) <;> intro hq <;> (try simp only [zH] at hq) <;> (try (exfalso; omega)))))
   all_goals first | exact h | rfl | trace_state
  ·have hp0 := decide_eq_false (show ¬ p < 0 by omega)
   have hq0 := decide_eq_false (show ¬ q < 0 by omega)
   refine web wni ?_
   unfold wqh
   (repeat' (first | (simp -implicitDefEqProofs (maxSteps := 2000000) (disch := first | with_reducible assumption | omega | (simp only [zS, zA, seval, wkd, wff, wob, wfb, wzk, wyb, wbd, wrt, weib, zD] <;> omega) | fail) only [zS, argl, insA, Go.Den.wm, wo, wu, looks, wab, wz, idOf, riA, seval, Go.Den.wh, kK, wtf, wfb, wko i64T, wev i64T, wfv i64T, wob, wvi, wff, wcb, wgb, wyb, wbd, wzmb, wyzb, walc, wxmb, wymb, neq2, decT, Bool.and_self, Bool.not_true, wuzb, wvzb, wwzb, wxzb, *, zT]) | (with_reducible (first | apply z1 | apply z2 | apply z3 | apply z4) <;> intro hq <;> (try simp only [zH] at hq) <;> (try (exfalso; omega)))))
   all_goals first | exact h | rfl | trace_state
set_option maxHeartbeats 8000000 in
theorem wl_5 (r : Rx) (s z : List UInt8) (hs : s.length ≤ 8) (i : Nat) (hi : i ≤ s.length) (l : List St) (hl : l.length ≤ 11000000) (hq : ∀ y ∈ l, GdS s.length y ∧ wlQ i y) : ∀ (k j : Nat), j + k = l.length →
  lim Try.prog cfg (.loop 7 0 (wdb 5) (SE (EJ 246 G0) [(156, .int .i64 j), (155, .int .i64 l.length), (154, FL l.length (stsC l)), (30, str z), (29, .pointer (some ⟨1, 0, none⟩)), (22, .map (some 0)), (10, .int .i64 i), (9, str s)])) (HP [.map (setI .i64 []), X (rxC r) RXT 0 false]) = some (.code (.exit 10) (SE (EJ 246 G0) [(30, str z), (29, .pointer (some ⟨1, 0, none⟩)), (22, .map (some 0)), (9, str s), (8, JK)]), HP [.map (setI .i64 []), X (rxC r) RXT 0 false]) := by
 intro k
 induction k with
 | zero =>
  intro j hj
  clear hq
  refine web wml ?_
  unfold wwj
  (repeat' (first | (simp -implicitDefEqProofs (maxSteps := 2000000) (disch := first | with_reducible assumption | omega | (simp only [zS, zA, seval, wkd, wff, wob, wfb, wzk, wyb, wbd, wrt, weib, zD] <;> omega) | fail) only [zS, argl, insA, Go.Den.wm, wo, wu, looks, wab, wz, idOf, riA, seval, Go.Den.wh, kK, wbk, wtf, wfb, wko i64T, wev i64T, wfv i64T, wob, wvi, wff, wcb, wgb, wyb, wbd, wzmb, wyzb, walc, wxmb, wymb, neq2, decT, Bool.and_self, Bool.not_true, wuzb, wvzb, wwzb, wxzb, *, zT]) | (with_reducible (first | apply z1 | apply z2 | apply z3 | apply z4) <;> intro hq <;> (try simp only [zH] at hq) <;> (try (exfalso; omega)))))
  all_goals rfl
 | succ k ih =>
  intro j hj
  have hlt : j < l.length := by omega
  have h := ih (j + 1) (by omega)
  obtain ⟨hg, hw⟩ := hq (l.getD j St.zero) (by rw [st_get hlt]; exact List.getElem_mem hlt)
  have h6 := wl_6 r s z i (by omega) l j (l.getD j St.zero) hg.lo (by have := hg.hi; omega) hw 3 0 rfl
  rw [show ((0 : Nat) : Int) = 0 from rfl] at h6
  have hsl := wtu (l := l) (i := j) hlt
  have m0 := hg.m0
  have m1 := hg.m1
  have x0 := hg.lo
  have x1 := hg.hi
  have x2 := hw.1
  clear ih hq hg hw
  generalize l.getD j St.zero = x at *
  have hs1 := walc (x := x)
  rw [m0, m1] at hs1
  clear m0 m1
  refine web wml ?_
  unfold wwj
  (repeat' (first | (simp -implicitDefEqProofs (maxSteps := 2000000) (disch := first | with_reducible assumption | omega | (simp only [zS, zA, seval, wkd, wff, wob, wfb, wzk, wyb, wbd, wrt, weib, zD] <;> omega) | fail) only [zS, argl, insA, Go.Den.wm, wo, wu, looks, wab, wz, idOf, riA, seval, Go.Den.wh, kK, wbk, wtf, wfb, wko i64T, wev i64T, wfv i64T, wob, wvi, wff, wcb, wgb, wyb, wbd, wzmb, wyzb, wxmb, wymb, neq2, decT, Bool.and_self, Bool.not_true, wuzb, wvzb, wwzb, wxzb, *, zT]) | (with_reducible (first | apply z1 | apply z2 | apply z3 | apply z4) <;> intro hq <;> (try simp only [zH] at hq) <;> (try (exfalso; omega)))))
  all_goals first | exact h | rfl | trace_state
end
end Go.Proofs.Ytjihbfdbgamcdaa
namespace Go.Proofs.Ytjihbfdbgamcdaa
set_option linter.unusedVariables false
set_option linter.unusedSimpArgs false
open Go.Den
noncomputable section
abbrev pS (i : Nat) : Value := .pointer (some ⟨i, 0, none⟩)
abbrev bS (s : BitVec 256) : ABlk := X (setC s) 43 0 true
abbrev sV (s : BitVec 256) : Value := .agg ⟨setC s⟩
theorem not_loop (s z : BitVec 256) : ∀ (m i : Nat) (t : BitVec 256), i + m = 4 → (∀ k, k < 4 → wd t k = if k < i then ~~~(wd s k) else wd s k) →
  lim Try.prog cfg (.loop 38 0 (wur 0) (SE (EJ 15 G0) [(4, .int .i64 i), (2, pS 1), (1, pS 0)])) (HP [bS t, bS z]) = some (.code (.exit 0) (SE (EJ 15 G0) [(2, pS 1), (1, pS 0)]), HP [bS (~~~s), bS z]) := by
 intro m
 induction m with
 | zero =>
  intro i t hi ht
  have : t = ~~~s := by
   apply wcic
   intro k hk
   rw [ht k hk, if_pos (by omega)]
   apply BitVec.eq_of_getLsbD_eq
   intro j hj
   rw [BitVec.getLsbD_not, wey, wey, BitVec.getLsbD_not, decide_eq_true hj, decide_eq_true (show 64 * k + j < 256 by omega)]
   simp
  subst this
  clear ht
  refine web wjs ?_
  unfold wvr
  (repeat' (first | (simp -implicitDefEqProofs (maxSteps := 2000000) (disch := first | with_reducible assumption | omega | (simp only [zS, zA, seval, wkd, zD] <;> omega) | fail) only [zS, argl, insA, Go.Den.wm, wo, wu, looks, wab, wz, idOf, riA, seval, Go.Den.wh, kK, wxr, *, zT]) | (with_reducible (first | apply z1 | apply z2 | apply z3 | apply z4) <;> intro hq <;> (try simp only [zH] at hq) <;> (try (exfalso; omega)))))
 | succ m ih =>
  intro i t hi ht
  have hi4 : i < 4 := by omega
  have hset := wcib t hi4 (~~~(wd t i))
  have h := ih (i + 1) (wxyb t i (~~~(wd t i))) (by omega) (by
   intro k hk
   rw [wd_setWd _ _ _ hk]
   by_cases hki : k = i
   ·rw [if_pos hki, if_pos (by omega), hki, ht i (by omega), if_neg (by omega)]
   ·rw [if_neg hki, ht k hk]
    by_cases hlt : k < i
    ·rw [if_pos hlt, if_pos (by omega)]
    ·rw [if_neg hlt, if_neg (by omega)])
  clear ih ht
  refine web wjs ?_
  unfold wvr
  (repeat' (first | (simp -implicitDefEqProofs (maxSteps := 2000000) (disch := first | with_reducible assumption | omega | (simp only [zS, zA, seval, wkd, zD] <;> omega) | fail) only [zS, argl, insA, Go.Den.wm, wo, wu, looks, wab, wz, idOf, riA, seval, Go.Den.wh, kK, wxr, wuab, wob, not_u64, *, zT]) | (with_reducible (first | apply z1 | apply z2 | apply z3 | apply z4) <;> intro hq <;> (try simp only [zH] at hq) <;> (try (exfalso; omega)))))
  all_goals exact h
theorem ev_Not (s : BitVec 256) : lim Try.prog cfg (.call 38 [sV s]) (HP []) = some (.val (sV (~~~s)), HP []) := by
 have h := not_loop s 0#256 4 0 s rfl (by intro k hk; simp)
 rw [show ((0 : Nat) : Int) = 0 from rfl] at h
 unfold bS at h
 rw [show setC 0#256 = [.int .u64 0, .int .u64 0, .int .u64 0, .int .u64 0] from rfl] at h
 refine wkb hc wfeb (Nat.le_of_ble_eq_true rfl) (Nat.le_of_ble_eq_true rfl) ?_
 unfold wvcb
 (repeat' (first | (simp -implicitDefEqProofs (maxSteps := 2000000) (disch := first | with_reducible assumption | omega | (simp only [zS, zA, seval, wkd, wob, zD] <;> omega) | fail) only [zS, argl, insA, Go.Den.wm, wo, wu, looks, wab, wz, idOf, riA, seval, Go.Den.wh, kK, wxr, wob, *, zT]) | (with_reducible (first | apply z1 | apply z2 | apply z3 | apply z4) <;> intro hq <;> (try simp only [zH] at hq) <;> (try (exfalso; omega)))))
end
end Go.Proofs.Ytjihbfdbgamcdaa
namespace Go.Den
set_option linter.unusedVariables false
set_option linter.unusedSimpArgs false
noncomputable section
def z61 : List Value := List.replicate 61 (.int .u8 0)
def Z61 : List UInt8 := List.replicate 61 0
theorem Z61_len : Z61.length = 61 := List.length_replicate
theorem wblc : z61.length = 61 := List.length_replicate
theorem mk_z61 {elem bytes fresh : Nat} (hb : bytes ≤ 1048576) : wbu elem 1 bytes [.int .u8 0] fresh (some 61) (some 61) = .simple (.slice (some ⟨fresh, 0, none⟩) 61 62) (some (X z61 elem 0 true)) := mk_one rfl (Nat.le_refl _) (by omega) hb
def wclc : Option ABlk → Option (List Value)
 | some (.cells b) => (match (bif rdOk b 0 61 then some b else none) with
  | some b => some (slotsOf b.cells 0 61)
  | none => none)
 | _ => none
def b2s61 (o : Option ABlk) : ARes := match wclc o with
 | some l => bif l.all isU8 then val (.string ⟨(l.map toU8).toArray⟩) else .none
 | none => .none
theorem b2s_61 {h : List ABlk} (hh : h.length ≤ 1099511627774) {i c : Nat} : b2sR (HP h) (.slice (some ⟨i, 0, none⟩) 61 c) = b2s61 h[i]? := by
 have h2 : wbl (HP h) 1 61 (.slice (some ⟨i, 0, none⟩) 61 c) = wclc h[i]? := by
  show (match wzi (HP h) ⟨i, 0, none⟩ 61 with
   | some b => some (slotsOf b.cells 0 61)
   | none => none) = _
  unfold wzi
  rw [wyg h hh]
  cases h[i]? with
  | none => rfl
  | some b => cases b <;> rfl
 show (match wbl (HP h) 1 61 (.slice (some ⟨i, 0, none⟩) 61 c) with
  | some l => bif l.all isU8 then val (.string ⟨(l.map toU8).toArray⟩) else .none
  | none => .none) = _
 rw [h2]
 rfl
theorem b2s_z {t z : Nat} {pf : Bool} : b2s61 (some (X z61 t z pf)) = val (str Z61) := by
 show b2s61 (some (X (List.replicate 61 (.int .u8 0)) t z pf)) = val (str (List.replicate 61 0))
 rfl
theorem mx_a : max 0 9 = 9 := rfl
theorem mx_b : max 9 9 = 9 := rfl
theorem mx_c : max 0 18 = 18 := rfl
theorem mx_d : max 18 18 = 18 := rfl
end
end Go.Den
namespace Go.Proofs.Ytjihbfdbgamcdaa
open Go.Den
noncomputable section
theorem wrrb (r : Rx) (hn : wub r ≤ 1000000) : lim Try.prog cfg (.call 30 [.agg ⟨rxC r⟩, str Z61, .bool true, .int .i64 0]) (HP []) = some (.val (FL 0 []), HP []) := by
 have h := wutb r hn
 have hz := Z61_len
 generalize Z61 = z at *
 refine wkb hc wpv (Nat.le_of_ble_eq_true rfl) (Nat.le_of_ble_eq_true rfl) ?_
 unfold wlw
 cases hr : wep r with
 | false =>
  rw [hr] at h
  clear hr
  (repeat' (first | (simp -implicitDefEqProofs (maxSteps := 2000000) (disch := first | with_reducible assumption | omega | (simp only [zS, zA, seval, zD] <;> omega) | fail) only [zS, argl, insA, Go.Den.wm, wo, wu, looks, wab, wz, idOf, riA, seval, Go.Den.wh, kK, wcb, wgb, *, zT]) | (with_reducible (first | apply z1 | apply z2 | apply z3 | apply z4) <;> intro hq <;> (try simp only [zH] at hq) <;> (try (exfalso; omega))) | (with_reducible apply z5; (case hl => (repeat (first | exact .nil | with_reducible apply z6 | with_reducible apply z7))); (case h => kernel_rfl))))
  all_goals rfl
 | true =>
  rw [hr] at h
  clear hr
  (repeat' (first | (simp -implicitDefEqProofs (maxSteps := 2000000) (disch := first | with_reducible assumption | omega | (simp only [zS, zA, seval, zD] <;> omega) | fail) only [zS, argl, insA, Go.Den.wm, wo, wu, looks, wab, wz, idOf, riA, seval, Go.Den.wh, kK, wcb, wgb, *, zT]) | (with_reducible (first | apply z1 | apply z2 | apply z3 | apply z4) <;> intro hq <;> (try simp only [zH] at hq) <;> (try (exfalso; omega))) | (with_reducible apply z5; (case hl => (repeat (first | exact .nil | with_reducible apply z6 | with_reducible apply z7))); (case h => kernel_rfl))))
  all_goals rfl
theorem wwib {S : BitVec 256} : rxC (wmz S) = [.int .i64 4, .int .i64 0, .int .i64 (-1), .int .i64 0, .int .u64 0, .int .u64 0, .int .u64 0, .int .u64 0, FL 1 (rxF0 S)] := by rw [wdq, wut]
theorem wdlc {k : Int} {S : BitVec 256} : rxC (.mk k 0 0 0 0#256 [wmz S, setX BC]) = [.int .i64 k, .int .i64 0, .int .i64 0, .int .i64 0, .int .u64 0, .int .u64 0, .int .u64 0, .int .u64 0, FL 2 ([.int .i64 4, .int .i64 0, .int .i64 (-1), .int .i64 0, .int .u64 0, .int .u64 0, .int .u64 0, .int .u64 0, FL 1 (rxF0 S)] ++ rxF0 BC)] := by
 rw [rxC, rxsC, rxsC, rxsC, List.append_nil, wwib, show rxC (setX BC) = rxF0 BC from wut]; rfl
theorem whub {s : BitVec 256} : setC s = [wdV s 0, wdV s 1, wdV s 2, wdV s 3] := rfl
theorem NAB_ne : ~~~AB ≠ 0#256 := by unfold AB; decide +kernel
theorem welc (l : List Int) : (textF l 8).length ≤ 8 := by unfold textF; rw [List.length_map, List.length_take]; omega
set_option maxRecDepth 100000 in
set_option maxHeartbeats 32000000 in
theorem wzzb (l1 l2 l3 l4 text : List Int) (at' : Int) : lim Try.prog cfg (.call 7 [.agg ⟨[FL l1.length (ints l1), FL l2.length (ints l2)]⟩, .agg ⟨[FL l3.length (ints l3), FL l4.length (ints l4)]⟩, FL text.length (ints text), .int .i64 at']) (HP []) = some (.val (.bool true), HP []) := by
 have h1 := ev_Text text 8 (by omega)
 have hs := welc text
 generalize textF text 8 = s at *
 rw [show ((8 : Nat) : Int) = 8 from rfl] at h1
 have hw := wbg at' 0 s.length (by omega) (by omega) (by omega)
 have hwi := wqkc at' s.length (by omega)
 obtain ⟨i, hi'⟩ : ∃ i : Nat, wkc at' 0 s.length = i := ⟨_, (Int.toNat_of_nonneg hwi.1).symm⟩
 rw [hi'] at hw hwi
 clear hi'
 have hi0 : i ≤ s.length := by omega
 have ho := ev_Of2 97 98 (by omega) (by omega)
 rw [show ((97 : Nat) : Int) = 97 from rfl, show ((98 : Nat) : Int) = 98 from rfl] at ho
 have hp := ev_Of2 98 99 (by omega) (by omega)
 rw [show ((98 : Nat) : Int) = 98 from rfl, show ((99 : Nat) : Int) = 99 from rfl] at hp
 have hnot := ev_Not AB
 unfold sV at hnot
 rw [whub, whub] at hnot
 obtain ⟨r, hn, hr⟩ := ev_Rx l3 l4 true
 have w1 := wrib r (by omega) s (by omega) true i
 have hq := wzkc r s i hi0
 have hl := row_len (whzb (r := r) (s := s) (bol := true) (a := i)) (by omega)
 have m5 := wl_5 r s Z61 hs i hi0 (wfk r s true i) hl hq (wfk r s true i).length 0 (by omega)
 rw [show ((0 : Nat) : Int) = 0 from rfl] at m5
 have w2 := wrrb r (by omega)
 have w3 := wrib Rx.zero (Nat.le_of_ble_eq_true (by kernel_rfl)) s (by omega) true 0
 have e3 : wfk Rx.zero s true 0 = [] := by unfold wfk; rw [if_neg (fun h => absurd h.1 (by rw [show wep Rx.zero = false by kernel_rfl]; simp))]
 rw [e3, show rxC Rx.zero = [.int .i64 0, .int .i64 0, .int .i64 0, .int .i64 0, .int .u64 0, .int .u64 0, .int .u64 0, .int .u64 0, FL 0 []] from wut, show ([] : List St).length = 0 from rfl, show stsC [] = [] from rfl] at w3
 have w4 := wrib r (by omega) s (by omega) true (-1)
 have e4 : wfk r s true (-1) = [] := by unfold wfk; rw [if_neg (fun h => by omega)]
 rw [e4, show ([] : List St).length = 0 from rfl, show stsC [] = [] from rfl] at w4
 generalize wfk r s true i = xs at *
 clear hq e3 e4
 have hy := ends_y s hs i hi0
 rw [wut] at hy
 have ly : (intL (endY s i)).length ≤ 100 := by rw [wtl]; unfold endY; split <;> simp
 have sta := wvmb AB AB_ne s hs i hi0
 have ala := wdub AB (by kernel_rfl) s hs i hi0
 have roa := weub AB (by kernel_rfl) s hs i hi0
 have laa := wyt (S := AB) hs hi0
 have ina := in_len AB s i
 rw [← wtl (l := endA AB s i)] at ina
 have lla : (intL (endS AB s i)).length ≤ 100 := by rw [wtl]; omega
 have lra : (intL (endR AB s i)).length ≤ 100 := by
  rw [wtl]; unfold endR
  have := List.length_filter_le (bcN s) (endS AB s i)
  rw [List.length_map]; omega
 have lza : (intL (endA AB s i)).length ≤ 100 := by
  rw [wtl]; unfold endA; split
  ·simp
  ·omega
 have m0a := wl_0 l3 l4 AB s i (intL (endS AB s i)) lla (intL (endS AB s i)).length 0 [] (by omega)
 have m1a := wl_1 l3 l4 AB s i (intL (endY s i)) ly (intL (endY s i)).length 0 (wim (intL (endS AB s i)) []) (by omega)
 have m2a := wl_2 l3 l4 AB s hs i (endS AB s i) (by omega) (fun e he => by
  have h1 := whdb (S := AB) hi0
  unfold endS at he
  rw [List.mem_range'_1] at he; omega) (endS AB s i).length 0 [] (by omega)
 have m4a := wl_4 l3 l4 s i (intL (endR AB s i)) lra (intL (endR AB s i)).length 0 (by omega)
 rw [List.drop_zero, show ((0 : Nat) : Int) = 0 from rfl] at m0a m1a m4a
 rw [List.drop_zero, show ((0 : Nat) : Int) = 0 from rfl, wgub] at m2a
 rw [wwib] at sta
 unfold wfmb at ala
 unfold whib at roa
 rw [wdlc] at ala roa
 generalize wim (intL (endY s i)) (wim (intL (endS AB s i)) []) = Pa at *
 generalize wim (intL (endS AB s i)) [] = Oa at *
 generalize intL (endR AB s i) = Ra at *
 generalize intL (endA AB s i) = Aa at *
 generalize intL (endS AB s i) = Ea at *
 clear laa
 have stb := wvmb (~~~AB) NAB_ne s hs i hi0
 have alb := wdub (~~~AB) (by kernel_rfl) s hs i hi0
 have rob := weub (~~~AB) (by kernel_rfl) s hs i hi0
 have lab := wyt (S := (~~~AB)) hs hi0
 have inb := in_len (~~~AB) s i
 rw [← wtl (l := endA (~~~AB) s i)] at inb
 have llb : (intL (endS (~~~AB) s i)).length ≤ 100 := by rw [wtl]; omega
 have lrb : (intL (endR (~~~AB) s i)).length ≤ 100 := by
  rw [wtl]; unfold endR
  have := List.length_filter_le (bcN s) (endS (~~~AB) s i)
  rw [List.length_map]; omega
 have lzb : (intL (endA (~~~AB) s i)).length ≤ 100 := by
  rw [wtl]; unfold endA; split
  ·simp
  ·omega
 have m0b := wl_0 l3 l4 (~~~AB) s i (intL (endS (~~~AB) s i)) llb (intL (endS (~~~AB) s i)).length 0 [] (by omega)
 have m1b := wl_1 l3 l4 (~~~AB) s i (intL (endY s i)) ly (intL (endY s i)).length 0 (wim (intL (endS (~~~AB) s i)) []) (by omega)
 have m2b := wl_2 l3 l4 (~~~AB) s hs i (endS (~~~AB) s i) (by omega) (fun e he => by
  have h1 := whdb (S := (~~~AB)) hi0
  unfold endS at he
  rw [List.mem_range'_1] at he; omega) (endS (~~~AB) s i).length 0 [] (by omega)
 have m4b := wl_4 l3 l4 s i (intL (endR (~~~AB) s i)) lrb (intL (endR (~~~AB) s i)).length 0 (by omega)
 rw [List.drop_zero, show ((0 : Nat) : Int) = 0 from rfl] at m0b m1b m4b
 rw [List.drop_zero, show ((0 : Nat) : Int) = 0 from rfl, wgub] at m2b
 rw [wwib] at stb
 unfold wfmb at alb
 unfold whib at rob
 rw [wdlc] at alb rob
 generalize wim (intL (endY s i)) (wim (intL (endS (~~~AB) s i)) []) = Pb at *
 generalize wim (intL (endS (~~~AB) s i)) [] = Ob at *
 generalize intL (endR (~~~AB) s i) = Rb at *
 generalize intL (endA (~~~AB) s i) = Ab at *
 generalize intL (endS (~~~AB) s i) = Eb at *
 clear lab
 generalize intL (endY s i) = EY at *
 simp only [wl0H, wl2H, wl3H, wlB, yBk, rxP, rxM, wcub, List.cons_append, List.nil_append] at *
 by_cases h0 : 0 < l1.length
 case' pos =>
  have hg := wkj h0
  generalize l1.getD 0 0 = x at *
 all_goals
  refine wkb hc wtr (Nat.le_of_ble_eq_true rfl) (Nat.le_of_ble_eq_true rfl) ?_
  unfold wio
  (repeat' (first | (simp -implicitDefEqProofs (maxSteps := 2000000) (disch := first | with_reducible assumption | omega | (simp only [zS, zA, seval, wrt, wkd, wff, wob, wfb, wzk, wvf, wyb, wbd, wblc, mx_a, mx_b, mx_c, mx_d, zD] <;> omega) | fail) only [zS, argl, insA, Go.Den.wm, wo, wu, looks, wab, wz, idOf, riA, seval, Go.Den.wh, kK, wxj, wyj, wzj, wak, wbk, wfb, wko i64T, wev i64T, wfv i64T, lenM_HP, lenM_S, wob, wvi, wff, wcb, wgb, wuzb, wvzb, wwzb, wxzb, wme, wyb, wbd, wzmb, wfd, wvf, wpi, wed, mk_z61, b2s_61, b2s_z, wblc, mx_a, mx_b, mx_c, mx_d, wcub, *, zT]) | (with_reducible (first | apply z1 | apply z2 | apply z3 | apply z4) <;> intro hq <;> (try simp only [zH] at hq) <;> (try (exfalso; omega)))))
  all_goals rfl
end
end Go.Proofs.Ytjihbfdbgamcdaa
namespace Go.Den
noncomputable section
open Go.ChangeShapes Go.WideShapes Go.RowKit
variable {P : Program} {cfg : Cfg} {H : Type} {enc : TypeId × Value → H}
theorem known_ev (wxl : wcl P cfg.glob cfg.know) (hm : P.follows .mixedOrders = true) {f : FuncId} {a : List Value} {v : Value} (h : Ev P cfg (.call f a) AH0 (.val v, AH0)) (ha : wqb a = true) (hv : wmf v = true) : wzn P cfg.glob f a v := by
 obtain ⟨n, h⟩ := h
 exact wht wxl hm (h n (Nat.le_refl n)) ha hv
def renW (w : World) : Ren := ⟨fun _ _ => none, fun b i => w.cell? ⟨b, i, none⟩⟩
theorem wflc (wxl : wcl P cfg.glob cfg.know) (hm : P.follows .mixedOrders = true) (hg : cfg.glob = fun _ => none) {f : FuncId} {a : List Value} (h : Ev P cfg (.call f a) AH0 (.val (.bool true), AH0)) (ha : wqb a = true) (w : World) (args' : Array Value) (hA : VRL (renW w) a args'.toList) :
  Calls P f args' w fun e w' => e = .returned (.bool true) ∧ w.heap.size ≤ w'.heap.size ∧ (∀ b : Nat, b < w.heap.size → w'.heap[b]? = w.heap[b]?) ∧ w'.os = w.os ∧ w'.output = w.output := by
 refine (known_ev wxl hm h ha rfl (renW w) w args' (fun _ _ _ h => h) (by rw [hg]; exact gok_none _) hA).mono ?_
 rintro e w' ⟨ρ', v', rfl, h1, _, _, _, _, h5, h2, h3, h4⟩
 rw [h1.bool_inv]
 exact ⟨rfl, h5, h2, h3, h4⟩
theorem same_at {W W' : World} (hb : ∀ b : Nat, b < W.heap.size → W'.heap[b]? = W.heap[b]?) {p : MemPlace} (hp : p.block < W.heap.size) : W.sameAt W' p := by
 cases p with
 | cell b o => exact World.cell?_of_block (w := W) (hb b hp)
 | map b => exact hb b hp
theorem wxib (hl : laidOutB P = true) {W W' : World} (hb : ∀ b : Nat, b < W.heap.size → W'.heap[b]? = W.heap[b]?) {sp : Nat → Bool} : ∀ (ts : List TypeId) (vs : List Value) (ds : List (DataW H)) (ps : List MemPlace), (ts.all fun t => P.readableRec t && decide (t < P.types.size)) = true →
  DataW.TrodAll enc P W 0 (fun _ => true) true ts vs ds ps → (∀ p ∈ ps, p.block < W.heap.size) → (∀ p ∈ ps, sp p.block = true) → DataW.TrodAll enc P W' 0 sp true ts vs ds ps := by
 intro ts
 induction ts with
 | nil =>
  intro vs ds ps _ h _ _
  obtain ⟨rfl, rfl, rfl⟩ := trodAll_nil h
  exact trodAll_mk0
 | cons t ts ih =>
  intro vs ds ps ht h hlt hs
  obtain ⟨v, vs', d, ds', p, q, rfl, rfl, rfl, h0, h1⟩ := trodAll_cons h
  simp only [List.all_cons, Bool.and_eq_true, decide_eq_true_eq] at ht
  exact trodAll_cons_mk (WideElems.Trod_stays hl ht.1.1 ht.1.2 h0 (fun x hx => same_at hb (hlt x (List.mem_append_left _ hx))) (fun x hx => hs x (List.mem_append_left _ hx)))
   (ih vs' ds' q (by simpa using ht.2) h1 (fun x hx => hlt x (List.mem_append_right _ hx)) (fun x hx => hs x (List.mem_append_right _ hx)))
theorem law_post (hl : laidOutB P = true) {f : Func} {s : ChangeSpec} {apart fresh handsOn : Bool} {W W' : World} {args : Array Value} {ds gs : List (DataW H)} {before : List MemPlace}
  (hW : DataW.Whole enc P f.params.toList s.vars apart W args.toList ds gs before) (hvars : s.vars = []) (hbool : ∃ t, f.resultTypes = #[t] ∧ P.underlying t = some .bool)
  (hts : (f.params.toList.all fun t => P.readableRec t && decide (t < P.types.size)) = true)
  (hfn : s.fn H (ds ++ gs) = { results := [.lit (.bool true)], args := ds })
  (hs : ∀ b : Nat, b < W.heap.size → W'.heap[b]? = W.heap[b]?) (ho : W'.os = W.os) (hp : W'.output = W.output) : s.post enc P f apart fresh handsOn false W args (.bool true) W' := by
 have hW' := hW
 obtain ⟨p, q, hA, hV, rfl, hfz, hnd⟩ := hW
 rw [hvars] at hV
 obtain ⟨rfl, rfl⟩ := trodVars_none hV
 obtain ⟨t, ht, hu⟩ := hbool
 refine wrcc (pa := p) (pv := []) hW' (fun b sp hd => ?_) (fun sp hsp => ?_) (fun sp _ => ?_) rfl (kept_of hs ho hp)
 ·rw [ht, hfn]
  exact trodAll_cons_mk (shut_bool hu _) trodAll_mk0
 ·rw [hfn]
  exact wxib hl hs _ _ _ _ hts hA (fun x hx => hW'.lt x (List.mem_append_left _ hx)) (fun x hx => hsp x (List.mem_append_left _ hx))
 ·rw [hfn, hvars]
  exact rfl
end
end Go.Den
namespace Go.Den
noncomputable section
open Go.ChangeShapes Go.WideShapes Go.RowKit
variable {P : Program} {H : Type} {enc : TypeId × Value → H}
theorem wglc {W : World} {t e : TypeId} {k : IntKind} (ht : P.underlying t = some (.slice e)) (he : P.underlying e = some (.int k)) (hc : P.cellsOf e = 1) {r : Reach} {b0 base fuel : Nat} {sp : Nat → Bool} {held : Bool} {v : Value} {x : DataW H × List MemPlace}
  (hval : Cell.okWide P W r b0 t v) (hf : DataW.trod enc P W base sp held fuel t [v] = some x) : ∃ l : List Int, VR (renW W) (FL l.length (l.map (Value.int k))) v := by
 rcases open_ints ht he hc hf with ⟨hcs, _⟩ | ⟨a, len, cap, zs, hcs, _, hl, hm, hz, _, hcell, _⟩
 ·cases hcs
  exact ⟨[], .listNo⟩
 ·cases hcs
  have hsp : a.spot = none := by
   simp only [Cell.okWide, ht, Cell.ok] at hval
   exact hval.2.2.2.1
  obtain ⟨blk, off, spot⟩ := a
  subst hsp
  have hlz : len ≤ zs.length := by rw [hz]; split <;> omega
  have hlen : (zs.take len).length = len := by rw [List.length_take]; omega
  refine ⟨zs.take len, ?_⟩
  rw [hlen]
  refine VR.list (a' := ⟨blk, off, none⟩) hl (fun i => .int k (zs.getD i 0)) (fun i hi => ?_) (fun i v hv => ?_)
  ·rw [List.length_map, hlen] at hi
   have := hcell i (by omega)
   rw [show (⟨blk, off, none⟩ : Addr).add i = ⟨blk, off + i, none⟩ by unfold Addr.add; split <;> simp_all] at this
   exact this
  ·rw [List.getElem?_map] at hv
   have hi : i < len := by
    have := (List.getElem?_eq_some_iff.1 (show ((zs.take len).map (Value.int k))[i]? = some v by rw [List.getElem?_map]; exact hv)).1
    rw [List.length_map, hlen] at this; exact this
   rw [List.getElem?_take, if_pos hi, List.getElem?_eq_getElem (by omega)] at hv
   cases hv
   rw [List.getD_eq_getElem?_getD, List.getElem?_eq_getElem (by omega)]
   exact .flat rfl
theorem whlc {W : World} {t e : TypeId} {k : IntKind} (ht : P.underlying t = some (.slice e)) (he : P.underlying e = some (.int k)) (hc : P.cellsOf e = 1) {r : Reach} {b0 base : Nat} {sp : Nat → Bool} {held : Bool} {v : Value} {d : DataW H} {ps : List MemPlace}
  (hval : Value.okWide P W r b0 t v) (hd : DataW.Trod enc P W base sp held t v d ps) : ∃ l : List Int, VR (renW W) (FL l.length (l.map (Value.int k))) v := by
 obtain ⟨a, len, cap, rfl⟩ := okWide_slice ht hval
 obtain ⟨fuel, hf⟩ := hd
 simp only [Value.okWide, ht] at hval
 exact wglc ht he hc hval hf
theorem wiub {W : World} {t e : TypeId} {f0 f1 : Field} {k : IntKind} (ht : P.underlying t = some (.struct #[f0, f1])) (o0 : f0.offset = 0) (o1 : f1.offset = 1) (hsz : P.cellsOf t = 2) (c0 : P.cellsOf f0.type = 1) (c1 : P.cellsOf f1.type = 1) (u0 : P.underlying f0.type = some (.slice e)) (u1 : P.underlying f1.type = some (.slice e)) (he : P.underlying e = some (.int k)) (hc : P.cellsOf e = 1) (hct : P.cellTypes P.depth t = some [f0.type, f1.type])
  {r : Reach} {b0 base : Nat} {sp : Nat → Bool} {held : Bool} {v : Value} {d : DataW H} {ps : List MemPlace}
  (hval : Value.okWide P W r b0 t v) (hd : DataW.Trod enc P W base sp held t v d ps) : ∃ l1 l2 : List Int, VR (renW W) (.agg ⟨[FL l1.length (l1.map (Value.int k)), FL l2.length (l2.map (Value.int k))]⟩) v := by
 simp only [Value.okWide, ht] at hval
 obtain ⟨⟨cs⟩, rfl, hsize, ts, h1, _, hcell⟩ := hval
 rw [hct] at h1
 cases h1
 rw [hsz] at hsize
 match cs, hsize with
 | [a, b], _ =>
  obtain ⟨fuel, hf⟩ := hd
  obtain ⟨y0, y1, n, _, hl, g0, g1⟩ := trod_struct2 ht hf
  obtain ⟨ua, ea, ka⟩ := hcell 0 a rfl
  obtain ⟨ub, eb, kb⟩ := hcell 1 b rfl
  cases ea
  cases eb
  rw [o0, c0] at g0
  rw [o1, c1] at g1
  obtain ⟨l1, v1⟩ := wglc u0 he hc ka (show DataW.trod enc P W base sp held n f0.type [a] = some y0 from g0)
  obtain ⟨l2, v2⟩ := wglc u1 he hc kb (show DataW.trod enc P W base sp held n f1.type [b] = some y1 from g1)
  exact ⟨l1, l2, VR.agg_mk (.cons v1 (.cons v2 (.nil _)))⟩
end
end Go.Den
