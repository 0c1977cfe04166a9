/-
  PARTS OF A PROOF, joined by a program (8 of 8): a proved reckoner of the model, and what the functions come to.
-/
import Derived.Test.YtgpabbbibmnnlaaQWayOnce7
import Derived.ChangeSame
import Derived.WideKeyArgs
import Derived.OpenShut
import Derived.WideKeyPair
import Derived.ChangeSlices
set_option linter.unusedVariables false
set_option linter.unusedSimpArgs false
namespace Go.Proofs.Ytgpabbbibmnnlaa
set_option linter.unusedVariables false
set_option linter.unusedSimpArgs false
open Go.Den
noncomputable section
theorem wgh {l : List Rx} : nfL (rxsC l) = rxsC l := (wdn l).2.2.2.2.2.1
theorem whh {a b : List Value} : nfL (a ++ b) = nfL a ++ nfL b := by
  induction a with
  | nil => rfl
  | cons v a ih => rw [List.cons_append, wwe, wwe, ih, List.cons_append]
theorem wzbc {l : List Rx} : slotsOf (rxsC l) 0 (l.length * 9) = rxsC l := by
  unfold slotsOf
  rw [List.drop_zero, ← wys, List.take_length]
theorem rx_begin : rxC (.mk 7 0 0 0 0#256 []) = [.int .i64 7, .int .i64 0, .int .i64 0, .int .i64 0, .int .u64 0, .int .u64 0, .int .u64 0, .int .u64 0, FL 0 []] := by rw [rxC, rxsC]; rfl
theorem rx_end : rxC (.mk 8 0 0 0 0#256 []) = [.int .i64 8, .int .i64 0, .int .i64 0, .int .i64 0, .int .u64 0, .int .u64 0, .int .u64 0, .int .u64 0, FL 0 []] := by rw [rxC, rxsC]; rfl
theorem rxs_cons {r : Rx} {l : List Rx} : rxsC (r :: l) = rxC r ++ rxsC l := by rw [rxsC]
set_option maxHeartbeats 8000000 in
theorem wacc (ks ns : List Int) (ere : Bool) (deep : Int) (hd : 0 ≤ deep) (hd2 : deep ≤ 3) (M : Nat) (a : Nat) (g l : Int) (hp : PkOk ks ns ere [.int .i64 deep, .int .i64 (1 + wzb (wrf ns a) 0 2)] M) (ha : a + (M + 1) ≤ 100000) (hg : 0 ≤ g) (hg3 : g ≤ 3) (hl : -1000000 + 2 * (M : Int) + 2 ≤ l) (hl2 : l ≤ 1000)
    (hno : ¬ (ere = true ∧ wzb (woj ks a) 0 9 = 9 ∧ 4 < l - 1 ∧ deep < 3)) :
    ∃ (r : Rx) (a' : Nat) (g' l' : Int), lim Try.prog cfg (.call 68 [.agg ⟨mkB ks ns ere⟩, .int .i64 deep]) (HP (mkH a g l)) = some (.val (.agg ⟨rxC r⟩), HP (mkH a' g' l')) ∧ wfc r ≤ M + 1 ∧ a' ≤ a + (M + 1) ∧ 0 ≤ g' ∧ g' ≤ 3 ∧ l - 2 * (M : Int) - 2 ≤ l' ∧ l' ≤ l := by
  have h1 := wtw ks ns ere a (by omega) g l
  have h3 := wwd (woj ks a) 0 9 (by omega) (by omega) (by omega)
  have h4 := wwd (wrf ns a) 0 2 (by omega) (by omega) (by omega)
  have i4 := wko (wrf ns a)
  generalize wzb (woj ks a) 0 9 = c at *
  generalize wzb (wrf ns a) 0 2 = w at *
  generalize woj ks a = x at *
  generalize wrf ns a = y at *
  obtain ⟨r, a2, g2, l2, e2, n2, b1, b2, b3, b4, b5⟩ := hp (a + 1) g (l - 1) (by omega) hg hg3 (by omega) (by omega)
  clear hp
  rcases e2 with ⟨e2, k2⟩ | ⟨rs, hr, hr2, hr3, e2⟩
  · refine ⟨r, a2, g2, l2, ?_, by omega, by omega, b2, b3, by omega, by omega⟩
    clear n2 b1 b4 b5 ha
    refine wlb hc wcd (Nat.le_of_ble_eq_true rfl) (Nat.le_of_ble_eq_true rfl) ?_
    unfold wad
    cases ere with
    | false =>
      clear hno
      (repeat' (first | (simp -implicitDefEqProofs (maxSteps := 2000000) (disch := first | with_reducible assumption | omega | (simp only [zS, zA, seval, wqh, zD] <;> omega) | fail) only [zS, argl, insA, Go.Den.wm, wo, wu, looks, wbb, wab, idOf, riA, seval, Go.Den.wh, kK, wgb, wkb, *, zT]) | (with_reducible (first | apply z1 | apply z2 | apply z3 | apply z4) <;> intro hq <;> (try simp only [zH] at hq) <;> (try (exfalso; omega))) | (with_reducible apply z5; (case hl => (repeat (first | exact .nil | with_reducible apply z6 | with_reducible apply z7))); (case h => kernel_rfl))))
    | true =>
      by_cases c9 : c = 9
      · by_cases l4 : 4 < l - 1
        · have d3 : ¬ deep < 3 := fun h => hno ⟨rfl, c9, l4, h⟩
          clear hno
          subst c9
          (repeat' (first | (simp -implicitDefEqProofs (maxSteps := 2000000) (disch := first | with_reducible assumption | omega | (simp only [zS, zA, seval, wqh, zD] <;> omega) | fail) only [zS, argl, insA, Go.Den.wm, wo, wu, looks, wbb, wab, idOf, riA, seval, Go.Den.wh, kK, wgb, wkb, *, zT]) | (with_reducible (first | apply z1 | apply z2 | apply z3 | apply z4) <;> intro hq <;> (try simp only [zH] at hq) <;> (try (exfalso; omega))) | (with_reducible apply z5; (case hl => (repeat (first | exact .nil | with_reducible apply z6 | with_reducible apply z7))); (case h => kernel_rfl))))
        · clear hno
          subst c9
          (repeat' (first | (simp -implicitDefEqProofs (maxSteps := 2000000) (disch := first | with_reducible assumption | omega | (simp only [zS, zA, seval, wqh, zD] <;> omega) | fail) only [zS, argl, insA, Go.Den.wm, wo, wu, looks, wbb, wab, idOf, riA, seval, Go.Den.wh, kK, wgb, wkb, *, zT]) | (with_reducible (first | apply z1 | apply z2 | apply z3 | apply z4) <;> intro hq <;> (try simp only [zH] at hq) <;> (try (exfalso; omega))) | (with_reducible apply z5; (case hl => (repeat (first | exact .nil | with_reducible apply z6 | with_reducible apply z7))); (case h => kernel_rfl))))
      · clear hno
        (repeat' (first | (simp -implicitDefEqProofs (maxSteps := 2000000) (disch := first | with_reducible assumption | omega | (simp only [zS, zA, seval, wqh, zD] <;> omega) | fail) only [zS, argl, insA, Go.Den.wm, wo, wu, looks, wbb, wab, idOf, riA, seval, Go.Den.wh, kK, wgb, wkb, *, zT]) | (with_reducible (first | apply z1 | apply z2 | apply z3 | apply z4) <;> intro hq <;> (try simp only [zH] at hq) <;> (try (exfalso; omega))) | (with_reducible apply z5; (case hl => (repeat (first | exact .nil | with_reducible apply z6 | with_reducible apply z7))); (case h => kernel_rfl))))
  · subst hr
    rw [wfc] at n2
    simp only [rxK, mkH, List.cons_append, List.nil_append] at e2
    by_cases c8 : c = 8
    · refine ⟨.mk 2 0 0 0 0#256 (.mk 7 0 0 0 0#256 [] :: rs), a2, g2, l2, ?_, by rw [wfc, wjb, wfc, wjb]; omega, by omega, b2, b3, by omega, by omega⟩
      rw [wiq, rxs_cons, rx_begin, List.length_cons, Nat.add_comm]
      have hsl := wzbc (l := rs)
      have hcl : rs.length * 9 ≤ (rxsC rs).length := by rw [wys]; exact Nat.le_refl _
      clear n2 b1 b4 b5 ha hno
      subst c8
      refine wlb hc wcd (Nat.le_of_ble_eq_true rfl) (Nat.le_of_ble_eq_true rfl) ?_
      unfold wad
      cases ere with
      | false =>
        (repeat' (first | (simp -implicitDefEqProofs (maxSteps := 2000000) (disch := first | with_reducible assumption | omega | (simp only [zS, zA, seval, wdn, weh, wwe, wvj, wjp, wfh, wgh, whh, zD] <;> omega) | fail) only [zS, argl, insA, Go.Den.wm, wo, wu, looks, wbb, wab, idOf, riA, seval, Go.Den.wh, kK, wgb, wkb, wybc, weh, wwe, wvj, wjp, wfh, wcl, whi, wot, wgh, whh, *, zT]) | (with_reducible (first | apply z1 | apply z2 | apply z3 | apply z4) <;> intro hq <;> (try simp only [zH] at hq) <;> (try (exfalso; omega))) | (with_reducible apply z5; (case hl => (repeat (first | exact .nil | with_reducible apply z6 | with_reducible apply z7))); (case h => kernel_rfl))))
      | true =>
        (repeat' (first | (simp -implicitDefEqProofs (maxSteps := 2000000) (disch := first | with_reducible assumption | omega | (simp only [zS, zA, seval, wdn, weh, wwe, wvj, wjp, wfh, wgh, whh, zD] <;> omega) | fail) only [zS, argl, insA, Go.Den.wm, wo, wu, looks, wbb, wab, idOf, riA, seval, Go.Den.wh, kK, wgb, wkb, wybc, weh, wwe, wvj, wjp, wfh, wcl, whi, wot, wgh, whh, *, zT]) | (with_reducible (first | apply z1 | apply z2 | apply z3 | apply z4) <;> intro hq <;> (try simp only [zH] at hq) <;> (try (exfalso; omega))) | (with_reducible apply z5; (case hl => (repeat (first | exact .nil | with_reducible apply z6 | with_reducible apply z7))); (case h => kernel_rfl))))
    · by_cases c7 : c = 7
      · refine ⟨.mk 2 0 0 0 0#256 (rs ++ [.mk 8 0 0 0 0#256 []]), a2, g2, l2, ?_, by rw [wfc, wez, wfc, wjb]; omega, by omega, b2, b3, by omega, by omega⟩
        rw [wiq, wkmb, rx_end, List.length_append, List.length_singleton]
        clear n2 b1 b4 b5 ha hno
        subst c7
        refine wlb hc wcd (Nat.le_of_ble_eq_true rfl) (Nat.le_of_ble_eq_true rfl) ?_
        unfold wad
        cases ere with
        | false =>
          (repeat' (first | (simp -implicitDefEqProofs (maxSteps := 2000000) (disch := first | with_reducible assumption | omega | (simp only [zS, zA, seval, wdn, weh, wwe, wvj, wjp, wfh, wgh, whh, zD] <;> omega) | fail) only [zS, argl, insA, Go.Den.wm, wo, wu, looks, wbb, wab, idOf, riA, seval, Go.Den.wh, kK, wgb, wkb, weh, wwe, wvj, wjp, wfh, wcl, whi, wot, wgh, whh, *, zT]) | (with_reducible (first | apply z1 | apply z2 | apply z3 | apply z4) <;> intro hq <;> (try simp only [zH] at hq) <;> (try (exfalso; omega))) | (with_reducible apply z5; (case hl => (repeat (first | exact .nil | with_reducible apply z6 | with_reducible apply z7))); (case h => kernel_rfl))))
        | true =>
          (repeat' (first | (simp -implicitDefEqProofs (maxSteps := 2000000) (disch := first | with_reducible assumption | omega | (simp only [zS, zA, seval, wdn, weh, wwe, wvj, wjp, wfh, wgh, whh, zD] <;> omega) | fail) only [zS, argl, insA, Go.Den.wm, wo, wu, looks, wbb, wab, idOf, riA, seval, Go.Den.wh, kK, wgb, wkb, weh, wwe, wvj, wjp, wfh, wcl, whi, wot, wgh, whh, *, zT]) | (with_reducible (first | apply z1 | apply z2 | apply z3 | apply z4) <;> intro hq <;> (try simp only [zH] at hq) <;> (try (exfalso; omega))) | (with_reducible apply z5; (case hl => (repeat (first | exact .nil | with_reducible apply z6 | with_reducible apply z7))); (case h => kernel_rfl))))
      · refine ⟨.mk 2 0 0 0 0#256 rs, a2, g2, l2, ?_, by rw [wfc]; omega, by omega, b2, b3, by omega, by omega⟩
        rw [wiq]
        clear n2 b1 b4 b5 ha
        refine wlb hc wcd (Nat.le_of_ble_eq_true rfl) (Nat.le_of_ble_eq_true rfl) ?_
        unfold wad
        cases ere with
        | false =>
          clear hno
          (repeat' (first | (simp -implicitDefEqProofs (maxSteps := 2000000) (disch := first | with_reducible assumption | omega | (simp only [zS, zA, seval, wdn, weh, wwe, wvj, wjp, wfh, wgh, whh, zD] <;> omega) | fail) only [zS, argl, insA, Go.Den.wm, wo, wu, looks, wbb, wab, idOf, riA, seval, Go.Den.wh, kK, wgb, wkb, weh, wwe, wvj, wjp, wfh, wcl, whi, wot, wgh, whh, *, zT]) | (with_reducible (first | apply z1 | apply z2 | apply z3 | apply z4) <;> intro hq <;> (try simp only [zH] at hq) <;> (try (exfalso; omega))) | (with_reducible apply z5; (case hl => (repeat (first | exact .nil | with_reducible apply z6 | with_reducible apply z7))); (case h => kernel_rfl))))
        | true =>
          by_cases c9 : c = 9
          · by_cases l4 : 4 < l - 1
            · have d3 : ¬ deep < 3 := fun h => hno ⟨rfl, c9, l4, h⟩
              clear hno
              subst c9
              (repeat' (first | (simp -implicitDefEqProofs (maxSteps := 2000000) (disch := first | with_reducible assumption | omega | (simp only [zS, zA, seval, wdn, weh, wwe, wvj, wjp, wfh, wgh, whh, zD] <;> omega) | fail) only [zS, argl, insA, Go.Den.wm, wo, wu, looks, wbb, wab, idOf, riA, seval, Go.Den.wh, kK, wgb, wkb, weh, wwe, wvj, wjp, wfh, wcl, whi, wot, wgh, whh, *, zT]) | (with_reducible (first | apply z1 | apply z2 | apply z3 | apply z4) <;> intro hq <;> (try simp only [zH] at hq) <;> (try (exfalso; omega))) | (with_reducible apply z5; (case hl => (repeat (first | exact .nil | with_reducible apply z6 | with_reducible apply z7))); (case h => kernel_rfl))))
            · clear hno
              subst c9
              (repeat' (first | (simp -implicitDefEqProofs (maxSteps := 2000000) (disch := first | with_reducible assumption | omega | (simp only [zS, zA, seval, wdn, weh, wwe, wvj, wjp, wfh, wgh, whh, zD] <;> omega) | fail) only [zS, argl, insA, Go.Den.wm, wo, wu, looks, wbb, wab, idOf, riA, seval, Go.Den.wh, kK, wgb, wkb, weh, wwe, wvj, wjp, wfh, wcl, whi, wot, wgh, whh, *, zT]) | (with_reducible (first | apply z1 | apply z2 | apply z3 | apply z4) <;> intro hq <;> (try simp only [zH] at hq) <;> (try (exfalso; omega))) | (with_reducible apply z5; (case hl => (repeat (first | exact .nil | with_reducible apply z6 | with_reducible apply z7))); (case h => kernel_rfl))))
          · clear hno
            (repeat' (first | (simp -implicitDefEqProofs (maxSteps := 2000000) (disch := first | with_reducible assumption | omega | (simp only [zS, zA, seval, wdn, weh, wwe, wvj, wjp, wfh, wgh, whh, zD] <;> omega) | fail) only [zS, argl, insA, Go.Den.wm, wo, wu, looks, wbb, wab, idOf, riA, seval, Go.Den.wh, kK, wgb, wkb, weh, wwe, wvj, wjp, wfh, wcl, whi, wot, wgh, whh, *, zT]) | (with_reducible (first | apply z1 | apply z2 | apply z3 | apply z4) <;> intro hq <;> (try simp only [zH] at hq) <;> (try (exfalso; omega))) | (with_reducible apply z5; (case hl => (repeat (first | exact .nil | with_reducible apply z6 | with_reducible apply z7))); (case h => kernel_rfl))))
end
end Go.Proofs.Ytgpabbbibmnnlaa
namespace Go.Proofs.Ytgpabbbibmnnlaa
set_option linter.unusedVariables false
set_option linter.unusedSimpArgs false
open Go.Den
noncomputable section
theorem rxs_two {r s : Rx} : rxsC [r, s] = rxC r ++ rxC s := by rw [rxsC, rxsC, rxsC, List.append_nil]
theorem wbcc {r : Rx} : wm ([.int .i64 0, .int .i64 0, .int .i64 0, .int .i64 0, .int .u64 0, .int .u64 0, .int .u64 0, .int .u64 0, .slice none 0 0, .int .i64 0, .int .i64 0, .int .i64 0, .int .i64 0, .int .u64 0, .int .u64 0, .int .u64 0, .int .u64 0, .slice none 0 0]) 0 (rxC r) = rxC r ++ rxZ := by rw [wrl]; rfl
theorem over_rx9 {r s : Rx} : wm (rxC r ++ rxZ) 9 (rxC s) = rxC r ++ rxC s := by rw [wrl (r := r), wrl (r := s)]; rfl
theorem wgz {r s : Rx} : wpb (rxC r ++ rxC s) = true := by rw [wrl (r := r), wrl (r := s)]; rfl
theorem wccc {r s : Rx} : slotsOf (rxC r ++ rxC s) 0 18 = rxC r ++ rxC s := by rw [wrl (r := r), wrl (r := s)]; rfl
theorem wkkb {t n : Nat} {c : List Value} : rxK t n c = [.int .i64 2, .int .i64 0, .int .i64 0, .int .i64 0, .int .u64 0, .int .u64 0, .int .u64 0, .int .u64 0, FO t n c] := rfl
set_option maxHeartbeats 8000000 in
theorem row_alt (ks ns : List Int) (deep : Int) (hd : 0 ≤ deep) (M : Nat) (a : Nat) (g l f : Int) (hf : IntKind.wrap .i64 ((BitVec.ofInt (IntKind.bits .i64) (wrf ns a) &&& BitVec.ofInt (IntKind.bits .i64) 1).toNat : Int) = f) (hf2 : 0 ≤ f ∧ f ≤ 1)
    (hp : PkOk ks ns true [.int .i64 deep, .int .i64 (1 + f)] M) (hp2 : PkOk ks ns true [.int .i64 deep, .int .i64 1] M) (ha : a + (2 * M + 1) ≤ 100000) (hg : 0 ≤ g) (hg3 : g ≤ 3) (hl : -1000000 + 4 * (M : Int) + 2 ≤ l) (hl2 : l ≤ 1000)
    (c9 : wzb (woj ks a) 0 9 = 9) (l4 : 4 < l - 1) (d3 : deep < 3) :
    ∃ (r : Rx) (a' : Nat) (g' l' : Int), lim Try.prog cfg (.call 68 [.agg ⟨mkB ks ns true⟩, .int .i64 deep]) (HP (mkH a g l)) = some (.val (.agg ⟨rxC r⟩), HP (mkH a' g' l')) ∧ wfc r ≤ 2 * M + 1 ∧ a' ≤ a + (2 * M + 1) ∧ 0 ≤ g' ∧ g' ≤ 3 ∧ l - 4 * (M : Int) - 2 ≤ l' ∧ l' ≤ l := by
  have h1 := wtw ks ns true a (by omega) g l
  have h3 := wwd (woj ks a) 0 9 (by omega) (by omega) (by omega)
  rw [c9] at h3
  clear c9
  generalize woj ks a = x at *
  generalize wrf ns a = y at *
  obtain ⟨r, a2, g2, l2, e2, n2, b1, b2, b3, b4, b5⟩ := hp (a + 1) g (l - 1) (by omega) hg hg3 (by omega) (by omega)
  obtain ⟨s, a3, g3, l3, e3, n3, c1, c2, c3, c4, c5⟩ := hp2 a2 g2 l2 (by omega) b2 b3 (by omega) (by omega)
  refine ⟨.mk 3 0 0 0 0#256 [r, s], a3, g3, l3, ?_, by rw [wfc, wjb, wjb, wjb]; omega, by omega, c2, c3, by omega, by omega⟩
  rw [wiq, rxs_two]
  clear hp hp2 n2 b1 b4 b5 n3 c1 c4 c5 ha
  refine wlb hc wcd (Nat.le_of_ble_eq_true rfl) (Nat.le_of_ble_eq_true rfl) ?_
  unfold wad
  rcases e2 with ⟨e2, _⟩ | ⟨rs, rfl, _, _, e2⟩
  · rcases e3 with ⟨e3, _⟩ | ⟨ss, rfl, _, _, e3⟩
    · (repeat' (first | (simp -implicitDefEqProofs (maxSteps := 2000000) (disch := first | with_reducible assumption | omega | (simp only [zS, zA, seval, wqh, wsd, wgz, zD] <;> omega) | fail) only [zS, argl, insA, Go.Den.wm, wo, wu, looks, wbb, wab, idOf, riA, seval, Go.Den.wh, kK, wgb, wkb, wkc, wsd, wuf, wjc, wbcc, over_rx9, wgz, wccc, *, zT]) | (with_reducible (first | apply z1 | apply z2 | apply z3 | apply z4) <;> intro hq <;> (try simp only [zH] at hq) <;> (try (exfalso; omega))) | (with_reducible apply z5; (case hl => (repeat (first | exact .nil | with_reducible apply z6 | with_reducible apply z7))); (case h => kernel_rfl))))
    · rw [wkkb] at e3
      rw [wiq]
      simp only [mkH, List.cons_append, List.nil_append] at e3
      rw [wrl (r := r)] at e2 ⊢
      (repeat' (first | (simp -implicitDefEqProofs (maxSteps := 2000000) (disch := first | with_reducible assumption | omega | (simp only [zS, zA, seval, wsd, zD] <;> omega) | fail) only [zS, argl, insA, Go.Den.wm, wo, wu, looks, wbb, wab, idOf, riA, seval, Go.Den.wh, kK, wgb, wkb, wkc, wsd, wuf, wjc, *, zT]) | (with_reducible (first | apply z1 | apply z2 | apply z3 | apply z4) <;> intro hq <;> (try simp only [zH] at hq) <;> (try (exfalso; omega))) | (with_reducible apply z5; (case hl => (repeat (first | exact .nil | with_reducible apply z6 | with_reducible apply z7))); (case h => kernel_rfl))))
  · rw [wkkb] at e2
    rw [wiq]
    simp only [mkH, List.cons_append, List.nil_append] at e2
    rcases e3 with ⟨e3, _⟩ | ⟨ss, rfl, _, _, e3⟩
    · rw [wrl (r := s)] at e3 ⊢
      (repeat' (first | (simp -implicitDefEqProofs (maxSteps := 2000000) (disch := first | with_reducible assumption | omega | (simp only [zS, zA, seval, wsd, zD] <;> omega) | fail) only [zS, argl, insA, Go.Den.wm, wo, wu, looks, wbb, wab, idOf, riA, seval, Go.Den.wh, kK, wgb, wkb, wkc, wsd, wuf, wjc, *, zT]) | (with_reducible (first | apply z1 | apply z2 | apply z3 | apply z4) <;> intro hq <;> (try simp only [zH] at hq) <;> (try (exfalso; omega))) | (with_reducible apply z5; (case hl => (repeat (first | exact .nil | with_reducible apply z6 | with_reducible apply z7))); (case h => kernel_rfl))))
    · rw [wkkb] at e3
      rw [wiq]
      simp only [mkH, List.cons_append, List.nil_append] at e3
      (repeat' (first | (simp -implicitDefEqProofs (maxSteps := 2000000) (disch := first | with_reducible assumption | omega | (simp only [zS, zA, seval, wsd, zD] <;> omega) | fail) only [zS, argl, insA, Go.Den.wm, wo, wu, looks, wbb, wab, idOf, riA, seval, Go.Den.wh, kK, wgb, wkb, wkc, wsd, wuf, wjc, *, zT]) | (with_reducible (first | apply z1 | apply z2 | apply z3 | apply z4) <;> intro hq <;> (try simp only [zH] at hq) <;> (try (exfalso; omega))) | (with_reducible apply z5; (case hl => (repeat (first | exact .nil | with_reducible apply z6 | with_reducible apply z7))); (case h => kernel_rfl))))
end
end Go.Proofs.Ytgpabbbibmnnlaa
namespace Go.Proofs.Ytgpabbbibmnnlaa
set_option linter.unusedVariables false
set_option linter.unusedSimpArgs false
open Go.Den
noncomputable section
theorem and1 (y : Int) : 0 ≤ IntKind.wrap .i64 ((BitVec.ofInt (IntKind.bits .i64) y &&& BitVec.ofInt (IntKind.bits .i64) 1).toNat : Int) ∧ IntKind.wrap .i64 ((BitVec.ofInt (IntKind.bits .i64) y &&& BitVec.ofInt (IntKind.bits .i64) 1).toNat : Int) ≤ 1 := by
  have h : (BitVec.ofInt (IntKind.bits .i64) y &&& BitVec.ofInt (IntKind.bits .i64) 1).toNat ≤ 1 := by
    rw [BitVec.toNat_and]
    exact Nat.le_trans Nat.and_le_right (by decide)
  rw [wrap_i64 (by omega) (by omega)]
  omega
theorem PkOk.mono {ks ns : List Int} {ere : Bool} {args : List Value} {M N : Nat} (h : PkOk ks ns ere args M) (hMN : M ≤ N) : PkOk ks ns ere args N := by
  intro a g l ha hg hg3 hl hl2
  obtain ⟨r, a', g', l', e, b1, b2, b3, b4, b5, b6⟩ := h a g l (by omega) hg hg3 (by omega) hl2
  exact ⟨r, a', g', l', e, by omega, by omega, b3, b4, by omega, b6⟩
theorem row_step (ks ns : List Int) (ere : Bool) (deep : Int) (hd : 0 ≤ deep) (hd2 : deep ≤ 3) (M : Nat) (hM : M ≤ 6000) (hp : wwbc ks ns ere 113 [.int .i64 deep] M) : MkOk ks ns ere 68 [.int .i64 deep] (6 * M + 3) := by
  have p1 : PkOk ks ns ere [.int .i64 deep, .int .i64 1] (3 * M + 1) := (wacb ks ns ere deep 1 (by omega) M (by omega) hp 0 rfl).mono (by omega)
  have p2 : PkOk ks ns ere [.int .i64 deep, .int .i64 2] (3 * M + 1) := (wacb ks ns ere deep 2 (by omega) M (by omega) hp 1 rfl).mono (by omega)
  have p3 : PkOk ks ns ere [.int .i64 deep, .int .i64 3] (3 * M + 1) := (wacb ks ns ere deep 3 (by omega) M (by omega) hp 2 rfl).mono (by omega)
  intro a g l ha hg hg3 hl hl2
  by_cases hq : ere = true ∧ wzb (woj ks a) 0 9 = 9 ∧ 4 < l - 1 ∧ deep < 3
  · obtain ⟨rfl, c9, l4, d3⟩ := hq
    obtain ⟨f0, f1⟩ := and1 (wrf ns a)
    generalize hf : IntKind.wrap .i64 ((BitVec.ofInt (IntKind.bits .i64) (wrf ns a) &&& BitVec.ofInt (IntKind.bits .i64) 1).toNat : Int) = f at f0 f1
    have hpf : PkOk ks ns true [.int .i64 deep, .int .i64 (1 + f)] (3 * M + 1) := by
      rcases (show f = 0 ∨ f = 1 by omega) with rfl | rfl
      · exact p1
      · exact p2
    obtain ⟨r, a', g', l', e, b1, b2, b3, b4, b5, b6⟩ := row_alt ks ns deep hd (3 * M + 1) a g l f hf ⟨f0, f1⟩ hpf p1 (by omega) hg hg3 (by omega) hl2 c9 l4 d3
    exact ⟨r, a', g', l', e, by omega, by omega, b3, b4, by omega, b6⟩
  · have hw := wko (wrf ns a)
    have hpw : PkOk ks ns ere [.int .i64 deep, .int .i64 (1 + wzb (wrf ns a) 0 2)] (3 * M + 1) := by
      rcases (show wzb (wrf ns a) 0 2 = 0 ∨ wzb (wrf ns a) 0 2 = 1 ∨ wzb (wrf ns a) 0 2 = 2 by omega) with h | h | h <;> rw [h]
      · exact p1
      · exact p2
      · exact p3
    obtain ⟨r, a', g', l', e, b1, b2, b3, b4, b5, b6⟩ := wacc ks ns ere deep hd hd2 (3 * M + 1) a g l hpw (by omega) hg hg3 (by omega) hl2 hq
    exact ⟨r, a', g', l', e, by omega, by omega, b3, b4, by omega, b6⟩
theorem ev_row0 (ks ns : List Int) (ere : Bool) : MkOk ks ns ere 68 [.int .i64 0] 3999 := by
  have r3 := row_step ks ns ere 3 (by omega) (by omega) 2 (by omega) (wzbb ks ns ere 3 (by omega) (by omega) 0 (fun h => by omega))
  have r2 := row_step ks ns ere 2 (by omega) (by omega) 17 (by omega) (wzbb ks ns ere 2 (by omega) (by omega) 15 (fun _ => r3))
  have r1 := row_step ks ns ere 1 (by omega) (by omega) 107 (by omega) (wzbb ks ns ere 1 (by omega) (by omega) 105 (fun _ => r2))
  have r0 := row_step ks ns ere 0 (by omega) (by omega) 647 (by omega) (wzbb ks ns ere 0 (by omega) (by omega) 645 (fun _ => r1))
  intro a g l ha hg hg3 hl hl2
  obtain ⟨r, a', g', l', e, b1, b2, b3, b4, b5, b6⟩ := r0 a g l (by omega) hg hg3 (by omega) hl2
  exact ⟨r, a', g', l', e, by omega, by omega, b3, b4, by omega, b6⟩
theorem ev_Rx (ks ns : List Int) (ere : Bool) : ∃ r : Rx, wfc r ≤ 3999 ∧ lim Try.prog cfg (.call 25 [.agg ⟨[FL ks.length (ints ks), FL ns.length (ints ns)]⟩, .bool ere]) (HP []) = some (.val (.agg ⟨rxC r⟩), HP []) := by
  obtain ⟨r, a', g', l', e, b1, b2, b3, b4, b5, b6⟩ := ev_row0 ks ns ere 0 0 14 (by omega) (by omega) (by omega) (by omega) (by omega)
  refine ⟨r, b1, ?_⟩
  clear b1 b2 b3 b4 b5 b6
  refine wlb hc wjo (Nat.le_of_ble_eq_true rfl) (Nat.le_of_ble_eq_true rfl) ?_
  unfold wal
  simp only [mkH, mkB] at e
  rw [show ((0 : Nat) : Int) = 0 from rfl] at e
  (repeat' (first | (simp -implicitDefEqProofs (maxSteps := 2000000) (disch := first | with_reducible assumption | omega | (simp only [zS, zA, seval, wqh, zD] <;> omega) | fail) only [zS, argl, insA, Go.Den.wm, wo, wu, looks, wbb, wab, idOf, riA, seval, Go.Den.wh, kK, *, zT]) | (with_reducible (first | apply z1 | apply z2 | apply z3 | apply z4) <;> intro hq <;> (try simp only [zH] at hq) <;> (try (exfalso; omega)))))
end
end Go.Proofs.Ytgpabbbibmnnlaa
namespace Go.Den
noncomputable section
variable {P : Program}
end
end Go.Den
namespace Go.Proofs.Ytgpabbbibmnnlaa
set_option linter.unusedVariables false
set_option linter.unusedSimpArgs false
open Go.Den
noncomputable section
end
end Go.Proofs.Ytgpabbbibmnnlaa
namespace Go.Proofs.Ytgpabbbibmnnlaa
set_option linter.unusedVariables false
set_option linter.unusedSimpArgs false
open Go.Den
noncomputable section
def bestF : List St → Option St → Option St
  | [], b => b
  | x :: l, none => bestF l (some x)
  | x :: l, some b => bestF l (if x.1 > b.1 then some x else some b)
end
end Go.Proofs.Ytgpabbbibmnnlaa
namespace Go.Proofs.Ytgpabbbibmnnlaa
set_option linter.unusedVariables false
set_option linter.unusedSimpArgs false
open Go.Den
noncomputable section
def firstF (r : Rx) (s : List UInt8) : Nat → Int → Option Mt
  | 0, _ => none
  | k + 1, a => match bestF (wuj r s true a) none with
    | some b => some ((b.2.put 0 a).put 1 b.1)
    | none => firstF r s k (a + 1)
def firstR (r : Rx) (s : List UInt8) (a : Int) : Option Mt := if wnt r = true ∧ 0 ≤ a ∧ a ≤ s.length then firstF r s (s.length + 1 - a).toNat a else none
end
end Go.Proofs.Ytgpabbbibmnnlaa
namespace Go.Proofs.Ytgpabbbibmnnlaa
set_option linter.unusedVariables false
set_option linter.unusedSimpArgs false
open Go.Den
noncomputable section
end
end Go.Proofs.Ytgpabbbibmnnlaa
namespace Go.Proofs.Ytgpabbbibmnnlaa
set_option linter.unusedVariables false
set_option linter.unusedSimpArgs false
open Go.Den
noncomputable section
end
end Go.Proofs.Ytgpabbbibmnnlaa
namespace Go.Den
noncomputable section
section
variable {len : Nat} {s : List UInt8} {bol : Bool} {Q : St → Prop}
end
end
end Go.Den
namespace Go.Proofs.Ytgpabbbibmnnlaa
open Go.Den
noncomputable section
def SpOk (m : Mt) : Prop := ∀ g : Nat, 1 ≤ g → g ≤ 3 → 0 ≤ m.at (g * 2) → m.at 0 ≤ m.at (g * 2) ∧ m.at (g * 2 + 1) ≤ m.at 1
def BehF (r : Rx) (s : List UInt8) (p m : Mt) : Prop :=
  p.at 1 ≤ m.at 0 ∧ ¬ (m.at 0 = m.at 1 ∧ m.at 0 = p.at 1) ∧ ∃ x, firstR r s (p.at 1) = some x ∧ 0 ≤ x.at 0 ∧ x.at 0 ≤ m.at 0 ∧ (x.at 0 = m.at 0 ∨ x.at 0 = x.at 1)
structure MtOk (r : Rx) (s : List UInt8) (prev : Option Mt) (m : Mt) : Prop where
  lo : 0 ≤ m.at 0
  le : m.at 0 ≤ m.at 1
  hi : m.at 1 ≤ s.length
  sp : SpOk m
  fst : prev = none → firstR r s 0 = some m
  beh : ∀ p, prev = some p → BehF r s p m
end
end Go.Proofs.Ytgpabbbibmnnlaa
namespace Go.Proofs.Ytgpabbbibmnnlaa
set_option linter.unusedVariables false
set_option linter.unusedSimpArgs false
open Go.Den
noncomputable section
end
end Go.Proofs.Ytgpabbbibmnnlaa
namespace Go.Proofs.Ytgpabbbibmnnlaa
set_option linter.unusedVariables false
set_option linter.unusedSimpArgs false
open Go.Den
noncomputable section
end
end Go.Proofs.Ytgpabbbibmnnlaa
namespace Go.Proofs.Ytgpabbbibmnnlaa
open Go.Den
noncomputable section
theorem wvfb (l : List Int) (n : Nat) : (wsbc l n).length ≤ n := by unfold wsbc; rw [List.length_map, List.length_take]; omega
end
end Go.Proofs.Ytgpabbbibmnnlaa
namespace Go.Den
noncomputable section
theorem neq2 {a b c d : Int} : eqcV true [.int .i64, .int .i64] (.agg ⟨[.int .i64 a, .int .i64 b]⟩) (.agg ⟨[.int .i64 c, .int .i64 d]⟩) = val (.bool (!(decide (a = c) && decide (b = d)))) := by
  rw [wawb rfl rfl]
  show val (.bool (!((a == c) && ((b == d) && true)))) = _
  rw [Bool.and_true]; rfl
end
end Go.Den
namespace Go.Proofs.Ytgpabbbibmnnlaa
set_option linter.unusedVariables false
set_option linter.unusedSimpArgs false
open Go.Den
noncomputable section
abbrev woF (l o : List St) (m : List UInt8) (i : Int) : List (Nat × Value) := [(52, .int .i64 i), (51, .int .i64 l.length), (50, FL l.length (stsC l)), (15, .map (some 0)), (14, FL o.length (stsC o)), (11, str m)]
theorem decT {α : Type} [DecidableEq α] {a : α} : decide (a = a) = true := decide_eq_true rfl
theorem wmrb : (EJ 104 G0).get 8 = JK := rfl
set_option maxHeartbeats 2000000 in
theorem wo_in (l o L : List St) (m : List UInt8) (hm : m.length ≤ 4) (i : Int) (x y : St) (hx : ∀ g : Nat, g < 4 → -1 ≤ x.2.at (g * 2) ∧ x.2.at (g * 2) ≤ 12 ∧ -1 ≤ x.2.at (g * 2 + 1) ∧ x.2.at (g * 2 + 1) ≤ 12)
    (hy : ∀ g : Nat, g < 4 → y.2.at (g * 2) = (if x.2.at (g * 2) < 0 then x.2.at (g * 2) else x.2.at (g * 2) + m.length) ∧ y.2.at (g * 2 + 1) = (if x.2.at (g * 2) < 0 then x.2.at (g * 2 + 1) else x.2.at (g * 2 + 1) + m.length)) : ∀ (k g : Nat), g + k = 4 →
    lim Try.prog cfg (.loop 11 0 (wqc 1) (SE (EJ 104 G0) [(74, .int .i64 g), (52, .int .i64 i), (51, .int .i64 l.length), (50, FL l.length (stsC l)), (18, .pointer (some ⟨2, 0, none⟩)), (17, .pointer (some ⟨1, 0, none⟩)), (15, .map (some 0)), (14, FL o.length (stsC o)), (11, str m)])) (HP [.map (setK stC L), X (stC x) 87 0 true, X (stC y) 87 0 true])
      = some (.code (.exit 2) (SE (EJ 104 G0) [(52, .int .i64 i), (51, .int .i64 l.length), (50, FL l.length (stsC l)), (15, .map (some 0)), (14, FL o.length (stsC o)), (11, str m), (8, JK)]), HP [.map (setK stC L)]) := by
  intro k
  induction k with
  | zero =>
    intro g hg
    clear hx hy
    refine wib wnf ?_
    unfold wue
    (repeat' (first | (simp -implicitDefEqProofs (maxSteps := 2000000) (disch := first | with_reducible assumption | omega | (simp only [zS, zA, seval, ww, wpw, wbc, wtc, zD] <;> omega) | fail) only [zS, argl, insA, Go.Den.wm, wo, wu, looks, wbb, wab, idOf, riA, seval, Go.Den.wh, kK, wnd, ww, wbc, wtc, wmrb, neq2, decT, Bool.and_self, Bool.not_true, *, zT]) | (with_reducible (first | apply z1 | apply z2 | apply z3 | apply z4) <;> intro hq <;> (try simp only [zH] at hq) <;> (try (exfalso; omega))) | (with_reducible apply z5; (case hl => (repeat (first | exact .nil | with_reducible apply z6 | with_reducible apply z7))); (case h => kernel_rfl))))
  | succ k ih =>
    intro g hg
    have h := ih (g + 1) (by omega)
    obtain ⟨y1, y2⟩ := hy g (by omega)
    obtain ⟨x1, x2, x3, x4⟩ := hx g (by omega)
    clear ih hx hy
    by_cases hq : x.2.at (g * 2) < 0
    · rw [if_pos hq] at y1 y2
      refine wib wnf ?_
      unfold wue
      (repeat' (first | (simp -implicitDefEqProofs (maxSteps := 2000000) (disch := first | with_reducible assumption | omega | (simp only [zS, zA, seval, ww, wpw, wbc, wtc, zD] <;> omega) | fail) only [zS, argl, insA, Go.Den.wm, wo, wu, looks, wbb, wab, idOf, riA, seval, Go.Den.wh, kK, wnd, ww, wbc, wtc, wmrb, neq2, decT, Bool.and_self, Bool.not_true, *, zT]) | (with_reducible (first | apply z1 | apply z2 | apply z3 | apply z4) <;> intro hq <;> (try simp only [zH] at hq) <;> (try (exfalso; omega))) | (with_reducible apply z5; (case hl => (repeat (first | exact .nil | with_reducible apply z6 | with_reducible apply z7))); (case h => kernel_rfl))))
      all_goals exact h
    · rw [if_neg hq] at y1 y2
      refine wib wnf ?_
      unfold wue
      (repeat' (first | (simp -implicitDefEqProofs (maxSteps := 2000000) (disch := first | with_reducible assumption | omega | (simp only [zS, zA, seval, ww, wpw, wbc, wtc, zD] <;> omega) | fail) only [zS, argl, insA, Go.Den.wm, wo, wu, looks, wbb, wab, idOf, riA, seval, Go.Den.wh, kK, wnd, ww, wbc, wtc, wmrb, neq2, decT, Bool.and_self, Bool.not_true, *, zT]) | (with_reducible (first | apply z1 | apply z2 | apply z3 | apply z4) <;> intro hq <;> (try simp only [zH] at hq) <;> (try (exfalso; omega))) | (with_reducible apply z5; (case hl => (repeat (first | exact .nil | with_reducible apply z6 | with_reducible apply z7))); (case h => kernel_rfl))))
      all_goals exact h
theorem wwfb {l : List St} {i : Nat} (h : i < l.length) : l.getD i St.zero = l[i] := by
  rw [List.getD_eq_getElem?_getD, List.getElem?_eq_getElem h]; rfl
set_option maxHeartbeats 2000000 in
theorem wo_out (l : List St) (m : List UInt8) (hm : m.length ≤ 4) (hl : l.length ≤ 11000000) (hnd : l.Nodup) (hgd : ∀ y ∈ l, GdS 7 y) : ∀ (k i : Nat), i + k = l.length →
    lim Try.prog cfg (.loop 11 0 (wqc 0) (SE (EJ 104 G0) (woF l (l.map (shS m.length)) m i))) (HP [.map (setK stC (l.take i))]) = some (.code (.exit 0) (SE (EJ 104 G0) [(8, JK)]), HP []) := by
  intro k
  induction k with
  | zero =>
    intro i hi
    clear hgd hnd
    generalize l.map (shS m.length) = o
    refine wib wph ?_
    unfold wig
    (repeat' (first | (simp -implicitDefEqProofs (maxSteps := 2000000) (disch := first | with_reducible assumption | omega | (simp only [zS, zA, seval, ww, wpw, wbc, wtc, zD] <;> omega) | fail) only [zS, argl, insA, Go.Den.wm, wo, wu, looks, wbb, wab, idOf, riA, seval, Go.Den.wh, kK, wjg, ww, wbc, wtc, wmrb, *, zT]) | (with_reducible (first | apply z1 | apply z2 | apply z3 | apply z4) <;> intro hq <;> (try simp only [zH] at hq) <;> (try (exfalso; omega)))))
  | succ k ih =>
    intro i hi
    have hlt : i < l.length := by omega
    have h := ih (i + 1) (by omega)
    have hmem : l.getD i St.zero ∈ l := by rw [wwfb hlt]; exact List.getElem_mem hlt
    have hg := hgd _ hmem
    have ho : (l.map (shS m.length)).getD i St.zero = shS m.length (l.getD i St.zero) := by
      rw [wwfb (by rw [List.length_map]; exact hlt), List.getElem_map, wwfb hlt]
    have hnin : l.getD i St.zero ∉ l.take i := by
      intro hin
      rw [wwfb hlt] at hin
      obtain ⟨j, hj, he⟩ := List.getElem_of_mem hin
      rw [List.getElem_take] at he
      have hji : j < i := by have hj' := hj; rw [List.length_take] at hj'; omega
      exact List.pairwise_iff_getElem.1 hnd j i (by omega) hlt hji he
    have htk : l.take (i + 1) = l.take i ++ [l.getD i St.zero] := by
      rw [List.take_add_one, List.getElem?_eq_getElem hlt, wwfb hlt]; rfl
    rw [htk] at h
    have hmo : (l.map (shS m.length)).length = l.length := List.length_map ..
    have hin := wo_in l (l.map (shS m.length)) (l.take i ++ [l.getD i St.zero]) m hm i (l.getD i St.zero) ((l.map (shS m.length)).getD i St.zero)
      (fun g h4 => by
        rcases (show g = 0 ∨ (1 ≤ g ∧ g ≤ 3) by omega) with rfl | hh
        · have := hg.m0; have := hg.m1; simp only [Nat.zero_mul, Nat.zero_add]; omega
        · have := hg.sp g hh.1 hh.2; unfold wmfb at this; omega)
      (fun g h4 => by rw [ho]; exact wdz h4) 4 0 rfl
    have hx0 := hg.lo
    have hx1 := hg.hi
    have hy1 : ((l.map (shS m.length)).getD i St.zero).1 = (l.getD i St.zero).1 + m.length := by rw [ho]; rfl
    have hs1 := wvr (l := l) (i := i) hlt
    have hs2 := wvr (l := l.map (shS m.length)) (i := i) (by omega)
    clear ih hgd hnd hmem hg ho htk
    rw [hmo] at hin
    rw [show ((0 : Nat) : Int) = 0 from rfl] at hin
    unfold woF at h ⊢
    rw [hmo] at h ⊢
    generalize l.map (shS m.length) = o at *
    generalize o.getD i St.zero = y at *
    generalize l.take i = L at *
    refine wib wph ?_
    unfold wig
    (repeat' (first | (simp -implicitDefEqProofs (maxSteps := 2000000) (disch := first | with_reducible assumption | omega | (simp only [zS, zA, seval, ww, wpw, wbc, wtc, zD] <;> omega) | fail) only [zS, argl, insA, Go.Den.wm, wo, wu, looks, wbb, wab, idOf, riA, seval, Go.Den.wh, kK, wjg, wnd, ww, wbc, wtc, wmrb, whd wut, wye wut, *, zT]) | (with_reducible (first | apply z1 | apply z2 | apply z3 | apply z4) <;> intro hq <;> (try simp only [zH] at hq) <;> (try (exfalso; omega)))))
    all_goals exact h
theorem wdcc (n hi : Int) (h0 : 0 ≤ hi) : 0 ≤ wzb n 0 hi ∧ wzb n 0 hi ≤ hi := by
  unfold wzb
  have h1 := Int.emod_nonneg n (show hi - 0 + 1 ≠ 0 by omega)
  have h2 := Int.emod_lt_of_pos n (show 0 < hi - 0 + 1 by omega)
  rw [Int.tmod_eq_emod]
  repeat' split
  all_goals omega
set_option maxRecDepth 100000 in
set_option maxHeartbeats 8000000 in
theorem wnrb (ks ns text more : List Int) (n : Int) : lim Try.prog cfg (.call 11 [.agg ⟨[FL ks.length (ints ks), FL ns.length (ints ns)]⟩, FL text.length (ints text), FL more.length (ints more), .int .i64 n]) (HP []) = some (.val (.bool true), HP []) := by
  obtain ⟨r, hn, hr⟩ := ev_Rx ks ns false
  have h1 := wubc text 7 (by omega)
  have h2 := wubc more 4 (by omega)
  have hs := wvfb text 7
  have hm := wvfb more 4
  generalize wsbc text 7 = s at *
  generalize wsbc more 4 = m at *
  rw [show ((7 : Nat) : Int) = 7 from rfl] at h1
  rw [show ((4 : Nat) : Int) = 4 from rfl] at h2
  have hw := wwd n 0 s.length (by omega) (by omega) (by omega)
  have hwi := wdcc n s.length (by omega)
  generalize wzb n 0 s.length = i at *
  have w1 := wkbc r (by omega) s (by omega) false i
  have w2 := wkbc r (by omega) (m ++ s) (by rw [List.length_append]; omega) false (i + m.length)
  rw [wqbc r m s i hwi.1 hwi.2] at w2
  have hrow := wjrb (r := r) (s := s) (bol := false) (a := i)
  have hlen := row_len hrow (by omega)
  have hgd : ∀ y ∈ wuj r s false i, GdS 7 y := fun y hy => by
    have h := (hrow.good y hy).1
    refine ⟨h.lo, by have := h.hi; omega, h.m0, h.m1, fun g g1 g3 => ?_⟩
    have := h.sp g g1 g3
    unfold wmfb at this ⊢
    omega
  have hl := wo_out (wuj r s false i) m hm (by omega) hrow.nd hgd (wuj r s false i).length 0 (by omega)
  rw [List.take_zero, show setK stC [] = [] from rfl, show ((0 : Nat) : Int) = 0 from rfl] at hl
  have hmo : ((wuj r s false i).map (shS m.length)).length = (wuj r s false i).length := List.length_map ..
  unfold woF at hl
  rw [hmo] at w2 hl
  have hms : (m ++ s).length = m.length + s.length := List.length_append
  clear hrow hgd hmo
  generalize (wuj r s false i).map (shS m.length) = o at *
  generalize wuj r s false i = l at *
  refine wlb hc wtm (Nat.le_of_ble_eq_true rfl) (Nat.le_of_ble_eq_true rfl) ?_
  unfold wtj
  (repeat' (first | (simp -implicitDefEqProofs (maxSteps := 2000000) (disch := first | with_reducible assumption | omega | (simp only [zS, zA, seval, wpw, wqh, wbc, wtc, zD] <;> omega) | fail) only [zS, argl, insA, Go.Den.wm, wo, wu, looks, wbb, wab, idOf, riA, seval, Go.Den.wh, kK, wjg, wnd, wgb, wkb, wif, wbc, wtc, wmrb, *, zT]) | (with_reducible (first | apply z1 | apply z2 | apply z3 | apply z4) <;> intro hq <;> (try simp only [zH] at hq) <;> (try (exfalso; omega)))))
end
end Go.Proofs.Ytgpabbbibmnnlaa
namespace Go.Den
noncomputable section
open Go.ChangeShapes Go.WideShapes Go.RowKit
variable {P : Program} {cfg : Cfg} {H : Type} {enc : TypeId × Value → H}
theorem known_ev (wzh : wkh P cfg.glob cfg.know) (hm : P.follows .mixedOrders = true) {f : FuncId} {a : List Value} {v : Value} (h : Ev P cfg (.call f a) AH0 (.val v, AH0)) (ha : wpb a = true) (hv : wud v = true) : wmj P cfg.glob f a v := by
  obtain ⟨n, h⟩ := h
  exact wbo wzh hm (h n (Nat.le_refl n)) ha hv
def renW (w : World) : Ren := ⟨fun _ _ => none, fun b i => w.cell? ⟨b, i, none⟩⟩
theorem wecc (wzh : wkh P cfg.glob cfg.know) (hm : P.follows .mixedOrders = true) (hg : cfg.glob = fun _ => none) {f : FuncId} {a : List Value} (h : Ev P cfg (.call f a) AH0 (.val (.bool true), AH0)) (ha : wpb a = true) (w : World) (args' : Array Value) (hA : VRL (renW w) a args'.toList) :
    Calls P f args' w fun e w' => e = .returned (.bool true) ∧ w.heap.size ≤ w'.heap.size ∧ (∀ b : Nat, b < w.heap.size → w'.heap[b]? = w.heap[b]?) ∧ w'.os = w.os ∧ w'.output = w.output := by
  refine (known_ev wzh hm h ha rfl (renW w) w args' (fun _ _ _ h => h) (by rw [hg]; exact gok_none _) hA).mono ?_
  rintro e w' ⟨ρ', v', rfl, h1, _, _, _, _, h5, h2, h3, h4⟩
  rw [h1.bool_inv]
  exact ⟨rfl, h5, h2, h3, h4⟩
theorem same_at {W W' : World} (hb : ∀ b : Nat, b < W.heap.size → W'.heap[b]? = W.heap[b]?) {p : MemPlace} (hp : p.block < W.heap.size) : W.sameAt W' p := by
  cases p with
  | cell b o => exact World.cell?_of_block (w := W) (hb b hp)
  | map b => exact hb b hp
theorem wbcb (hl : laidOutB P = true) {W W' : World} (hb : ∀ b : Nat, b < W.heap.size → W'.heap[b]? = W.heap[b]?) {sp : Nat → Bool} : ∀ (ts : List TypeId) (vs : List Value) (ds : List (DataW H)) (ps : List MemPlace), (ts.all fun t => P.readableRec t && decide (t < P.types.size)) = true →
    DataW.TrodAll enc P W 0 (fun _ => true) true ts vs ds ps → (∀ p ∈ ps, p.block < W.heap.size) → (∀ p ∈ ps, sp p.block = true) → DataW.TrodAll enc P W' 0 sp true ts vs ds ps := by
  intro ts
  induction ts with
  | nil =>
    intro vs ds ps _ h _ _
    obtain ⟨rfl, rfl, rfl⟩ := trodAll_nil h
    exact trodAll_mk0
  | cons t ts ih =>
    intro vs ds ps ht h hlt hs
    obtain ⟨v, vs', d, ds', p, q, rfl, rfl, rfl, h0, h1⟩ := trodAll_cons h
    simp only [List.all_cons, Bool.and_eq_true, decide_eq_true_eq] at ht
    exact trodAll_cons_mk (WideElems.Trod_stays hl ht.1.1 ht.1.2 h0 (fun x hx => same_at hb (hlt x (List.mem_append_left _ hx))) (fun x hx => hs x (List.mem_append_left _ hx)))
      (ih vs' ds' q (by simpa using ht.2) h1 (fun x hx => hlt x (List.mem_append_right _ hx)) (fun x hx => hs x (List.mem_append_right _ hx)))
theorem law_post (hl : laidOutB P = true) {f : Func} {s : ChangeSpec} {apart fresh handsOn : Bool} {W W' : World} {args : Array Value} {ds gs : List (DataW H)} {before : List MemPlace}
    (hW : DataW.Whole enc P f.params.toList s.vars apart W args.toList ds gs before) (hvars : s.vars = []) (hbool : ∃ t, f.resultTypes = #[t] ∧ P.underlying t = some .bool)
    (hts : (f.params.toList.all fun t => P.readableRec t && decide (t < P.types.size)) = true)
    (hfn : s.fn H (ds ++ gs) = { results := [.lit (.bool true)], args := ds })
    (hs : ∀ b : Nat, b < W.heap.size → W'.heap[b]? = W.heap[b]?) (ho : W'.os = W.os) (hp : W'.output = W.output) : s.post enc P f apart fresh handsOn false W args (.bool true) W' := by
  have hW' := hW
  obtain ⟨p, q, hA, hV, rfl, hfz, hnd⟩ := hW
  rw [hvars] at hV
  obtain ⟨rfl, rfl⟩ := trodVars_none hV
  obtain ⟨t, ht, hu⟩ := hbool
  refine wcub (pa := p) (pv := []) hW' (fun b sp hd => ?_) (fun sp hsp => ?_) (fun sp _ => ?_) rfl (kept_of hs ho hp)
  · rw [ht, hfn]
    exact trodAll_cons_mk (shut_bool hu _) trodAll_mk0
  · rw [hfn]
    exact wbcb hl hs _ _ _ _ hts hA (fun x hx => hW'.lt x (List.mem_append_left _ hx)) (fun x hx => hsp x (List.mem_append_left _ hx))
  · rw [hfn, hvars]
    exact rfl
end
end Go.Den
namespace Go.Den
noncomputable section
open Go.ChangeShapes Go.WideShapes Go.RowKit
variable {P : Program} {H : Type} {enc : TypeId × Value → H}
theorem wfcc {W : World} {t e : TypeId} {k : IntKind} (ht : P.underlying t = some (.slice e)) (he : P.underlying e = some (.int k)) (hc : P.cellsOf e = 1) {r : Reach} {b0 base fuel : Nat} {sp : Nat → Bool} {held : Bool} {v : Value} {x : DataW H × List MemPlace}
    (hval : Cell.okWide P W r b0 t v) (hf : DataW.trod enc P W base sp held fuel t [v] = some x) : ∃ l : List Int, VR (renW W) (FL l.length (l.map (Value.int k))) v := by
  rcases open_ints ht he hc hf with ⟨hcs, _⟩ | ⟨a, len, cap, zs, hcs, _, hl, hm, hz, _, hcell, _⟩
  · cases hcs
    exact ⟨[], .listNo⟩
  · cases hcs
    have hsp : a.spot = none := by
      simp only [Cell.okWide, ht, Cell.ok] at hval
      exact hval.2.2.2.1
    obtain ⟨blk, off, spot⟩ := a
    subst hsp
    have hlz : len ≤ zs.length := by rw [hz]; split <;> omega
    have hlen : (zs.take len).length = len := by rw [List.length_take]; omega
    refine ⟨zs.take len, ?_⟩
    rw [hlen]
    refine VR.list (a' := ⟨blk, off, none⟩) hl (fun i => .int k (zs.getD i 0)) (fun i hi => ?_) (fun i v hv => ?_)
    · rw [List.length_map, hlen] at hi
      have := hcell i (by omega)
      rw [show (⟨blk, off, none⟩ : Addr).add i = ⟨blk, off + i, none⟩ by unfold Addr.add; split <;> simp_all] at this
      exact this
    · rw [List.getElem?_map] at hv
      have hi : i < len := by
        have := (List.getElem?_eq_some_iff.1 (show ((zs.take len).map (Value.int k))[i]? = some v by rw [List.getElem?_map]; exact hv)).1
        rw [List.length_map, hlen] at this; exact this
      rw [List.getElem?_take, if_pos hi, List.getElem?_eq_getElem (by omega)] at hv
      cases hv
      rw [List.getD_eq_getElem?_getD, List.getElem?_eq_getElem (by omega)]
      exact .flat rfl
theorem wxfb {W : World} {t e : TypeId} {k : IntKind} (ht : P.underlying t = some (.slice e)) (he : P.underlying e = some (.int k)) (hc : P.cellsOf e = 1) {r : Reach} {b0 base : Nat} {sp : Nat → Bool} {held : Bool} {v : Value} {d : DataW H} {ps : List MemPlace}
    (hval : Value.okWide P W r b0 t v) (hd : DataW.Trod enc P W base sp held t v d ps) : ∃ l : List Int, VR (renW W) (FL l.length (l.map (Value.int k))) v := by
  obtain ⟨a, len, cap, rfl⟩ := okWide_slice ht hval
  obtain ⟨fuel, hf⟩ := hd
  simp only [Value.okWide, ht] at hval
  exact wfcc ht he hc hval hf
theorem open_two {W : World} {t e : TypeId} {f0 f1 : Field} {k : IntKind} (ht : P.underlying t = some (.struct #[f0, f1])) (o0 : f0.offset = 0) (o1 : f1.offset = 1) (hsz : P.cellsOf t = 2) (c0 : P.cellsOf f0.type = 1) (c1 : P.cellsOf f1.type = 1) (u0 : P.underlying f0.type = some (.slice e)) (u1 : P.underlying f1.type = some (.slice e)) (he : P.underlying e = some (.int k)) (hc : P.cellsOf e = 1) (hct : P.cellTypes P.depth t = some [f0.type, f1.type])
    {r : Reach} {b0 base : Nat} {sp : Nat → Bool} {held : Bool} {v : Value} {d : DataW H} {ps : List MemPlace}
    (hval : Value.okWide P W r b0 t v) (hd : DataW.Trod enc P W base sp held t v d ps) : ∃ l1 l2 : List Int, VR (renW W) (.agg ⟨[FL l1.length (l1.map (Value.int k)), FL l2.length (l2.map (Value.int k))]⟩) v := by
  simp only [Value.okWide, ht] at hval
  obtain ⟨⟨cs⟩, rfl, hsize, ts, h1, _, hcell⟩ := hval
  rw [hct] at h1
  cases h1
  rw [hsz] at hsize
  match cs, hsize with
  | [a, b], _ =>
    obtain ⟨fuel, hf⟩ := hd
    obtain ⟨y0, y1, n, _, hl, g0, g1⟩ := trod_struct2 ht hf
    obtain ⟨ua, ea, ka⟩ := hcell 0 a rfl
    obtain ⟨ub, eb, kb⟩ := hcell 1 b rfl
    cases ea
    cases eb
    rw [o0, c0] at g0
    rw [o1, c1] at g1
    obtain ⟨l1, v1⟩ := wfcc u0 he hc ka (show DataW.trod enc P W base sp held n f0.type [a] = some y0 from g0)
    obtain ⟨l2, v2⟩ := wfcc u1 he hc kb (show DataW.trod enc P W base sp held n f1.type [b] = some y1 from g1)
    exact ⟨l1, l2, VR.agg_mk (.cons v1 (.cons v2 (.nil _)))⟩
end
end Go.Den
