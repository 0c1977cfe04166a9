/-
  PARTS OF A PROOF, joined by a program (8 of 8): a proved reckoner of the model, and what the functions come to.
-/
import Derived.Test.YtdbhfmdndiphcaaQFindAll7
import Derived.ChangeSame
import Derived.WideKeyArgs
import Derived.OpenShut
import Derived.WideKeyPair
import Derived.ChangeSlices
set_option linter.unusedVariables false
set_option linter.unusedSimpArgs false
namespace Go.Proofs.Ytdbhfmdndiphcaa
set_option linter.unusedVariables false
set_option linter.unusedSimpArgs false
open Go.Den
noncomputable section
def MkOk (ks ns : List Int) (ere : Bool) (f : FuncId) (args : List Value) (M : Nat) : Prop :=
  ∀ (a : Nat) (g l : Int), a + M ≤ 100000 → 0 ≤ g → g ≤ 3 → -1000000 + 2 * (M : Int) ≤ l → l ≤ 1000 →
    ∃ (r : Rx) (a' : Nat) (g' l' : Int), lim Try.prog cfg (.call f (.agg ⟨mkB ks ns ere⟩ :: args)) (HP (mkH a g l)) = some (.val (.agg ⟨rxC r⟩), HP (mkH a' g' l')) ∧ wec r ≤ M ∧ a' ≤ a + M ∧ 0 ≤ g' ∧ g' ≤ 3 ∧ l - 2 * (M : Int) ≤ l' ∧ l' ≤ l
theorem wxo (n : Int) : 0 ≤ whc n 0 2 ∧ whc n 0 2 ≤ 2 := by
  unfold whc
  have := Int.emod_nonneg n (show (3 : Int) ≠ 0 by omega)
  have h5 := Int.emod_lt_of_pos n (show (0 : Int) < 3 by omega)
  rw [show (2 : Int) - 0 + 1 = 3 from rfl, Int.tmod_eq_emod]
  repeat' split
  all_goals omega
theorem welb {k n : Int} {s : BitVec 256} : rxC (.mk k 0 0 n s []) = [.int .i64 k, .int .i64 0, .int .i64 0, .int .i64 n, wdV s 0, wdV s 1, wdV s 2, wdV s 3, FL 0 []] := by rw [rxC, rxsC]; rfl
theorem wnn {k lo hi n : Int} {r : Rx} : rxC (.mk k lo hi n 0#256 [r]) = [.int .i64 k, .int .i64 lo, .int .i64 hi, .int .i64 n, .int .u64 0, .int .u64 0, .int .u64 0, .int .u64 0, FL 1 (rxC r)] := by rw [rxC, rxsC, rxsC, List.append_nil]; rfl
def wwcc (ks ns : List Int) (ere : Bool) (f : FuncId) (args : List Value) (M : Nat) : Prop :=
  ∀ (a : Nat) (g l : Int), a + M ≤ 100000 → 0 ≤ g → g ≤ 3 → -1000000 + 2 * (M : Int) ≤ l → l ≤ 1000 →
    ∃ (r : Rx) (a' : Nat) (g' l' : Int), lim Try.prog cfg (.call f (.agg ⟨mkB ks ns ere⟩ :: args)) (HP (mkH a g l)) = some (.val (.agg ⟨rxC r⟩), HP (mkH a' g' l')) ∧ wec r ≤ M ∧ r.kind ≠ 2 ∧ a' ≤ a + M ∧ 0 ≤ g' ∧ g' ≤ 3 ∧ l - 2 * (M : Int) ≤ l' ∧ l' ≤ l
theorem wflb {k n : Int} : rxC (.mk k 0 0 n 0#256 []) = [.int .i64 k, .int .i64 0, .int .i64 0, .int .i64 n, .int .u64 0, .int .u64 0, .int .u64 0, .int .u64 0, FL 0 []] := by rw [rxC, rxsC]; rfl
set_option maxHeartbeats 8000000 in
theorem part_set (ks ns : List Int) (ere : Bool) (deep : Int) (hd : 0 ≤ deep) (hd2 : deep ≤ 3) (a : Nat) (ha : a ≤ 100000) (g l : Int) (hg : 0 ≤ g) (hg3 : g ≤ 3) (hl : -1000000 ≤ l) (hl2 : l ≤ 1000)
    (hno : ¬ (6 ≤ whc (wbk ks a) 0 9 ∧ 3 < l - 2 ∧ deep < 3 ∧ g < 3)) (hno2 : ¬ (whc (wbk ks a) 0 9 = 5 ∧ 0 < g)) :
    ∃ (r : Rx), lim Try.prog cfg (.call 95 [.agg ⟨mkB ks ns ere⟩, .int .i64 deep]) (HP (mkH a g l)) = some (.val (.agg ⟨rxC r⟩), HP (mkH (a + 1 : Nat) g (l - 2))) ∧ wec r ≤ 2 ∧ r.kind ≠ 2 := by
  have h1 := wox ks ns ere a (by omega) g l
  obtain ⟨s, h2⟩ := wtt (wzf ns a)
  have h3 := wke (wbk ks a) 0 9 (by omega) (by omega) (by omega)
  have h4 := wke (wzf ns a) 0 2 (by omega) (by omega) (by omega)
  have h5 := wke (IntKind.wrap .i64 ((wzf ns a).tdiv 8)) 0 2 (by omega) (by omega) (by omega)
  have i4 := wxo (wzf ns a)
  have i5 := wxo (IntKind.wrap .i64 ((wzf ns a).tdiv 8))
  generalize whc (wbk ks a) 0 9 = c at *
  generalize whc (wzf ns a) 0 2 = lo at *
  generalize whc (IntKind.wrap .i64 ((wzf ns a).tdiv 8)) 0 2 = up at *
  generalize wbk ks a = x at *
  generalize wzf ns a = y at *
  obtain ⟨e, he⟩ : ∃ e, IntKind.wrap .i64 ((BitVec.ofInt (IntKind.bits .i64) c &&& BitVec.ofInt (IntKind.bits .i64) 1).toNat : Int) = e := ⟨_, rfl⟩
  obtain ⟨f, hf⟩ : ∃ f, IntKind.wrap .i64 ((BitVec.ofInt (IntKind.bits .i64) y &&& BitVec.ofInt (IntKind.bits .i64) 4).toNat : Int) = f := ⟨_, rfl⟩
  by_cases q : e = 0
  · refine ⟨(.mk 1 0 0 0 s []), ?_, by simp [wec, wnb], by simp [Rx.kind]⟩
    rw [welb]
    subst q
    clear h4 h5 i4 i5 hf
    refine wmb hc wvb (Nat.le_of_ble_eq_true rfl) (Nat.le_of_ble_eq_true rfl) ?_
    unfold wac
    by_cases c6 : 6 ≤ c
    · by_cases l3 : 3 < l - 2
      · by_cases d3 : deep < 3
        · have g3 : ¬ g < 3 := fun h => hno ⟨c6, l3, d3, h⟩
          clear hno hno2
          (repeat' (first | (simp -implicitDefEqProofs (maxSteps := 2000000) (disch := first | with_reducible assumption | omega | (simp only [zS, zA, seval, wje, wmg, wyd, zD] <;> omega) | fail) only [zS, argl, insA, Go.Den.wm, wo, wu, looks, wbb, wab, idOf, riA, seval, Go.Den.wh, kK, web, wkb, wgd, woc, wyd, weg, wnc, *, zT]) | (with_reducible (first | apply z1 | apply z2 | apply z3 | apply z4) <;> intro hq <;> (try simp only [zH] at hq) <;> (try (exfalso; omega))) | (with_reducible apply z5; (case hl => (repeat (first | exact .nil | with_reducible apply z6 | with_reducible apply z7))); (case h => kernel_rfl))))
        · clear hno hno2
          (repeat' (first | (simp -implicitDefEqProofs (maxSteps := 2000000) (disch := first | with_reducible assumption | omega | (simp only [zS, zA, seval, wje, wmg, wyd, zD] <;> omega) | fail) only [zS, argl, insA, Go.Den.wm, wo, wu, looks, wbb, wab, idOf, riA, seval, Go.Den.wh, kK, web, wkb, wgd, woc, wyd, weg, wnc, *, zT]) | (with_reducible (first | apply z1 | apply z2 | apply z3 | apply z4) <;> intro hq <;> (try simp only [zH] at hq) <;> (try (exfalso; omega))) | (with_reducible apply z5; (case hl => (repeat (first | exact .nil | with_reducible apply z6 | with_reducible apply z7))); (case h => kernel_rfl))))
      · clear hno hno2
        (repeat' (first | (simp -implicitDefEqProofs (maxSteps := 2000000) (disch := first | with_reducible assumption | omega | (simp only [zS, zA, seval, wje, wmg, wyd, zD] <;> omega) | fail) only [zS, argl, insA, Go.Den.wm, wo, wu, looks, wbb, wab, idOf, riA, seval, Go.Den.wh, kK, web, wkb, wgd, woc, wyd, weg, wnc, *, zT]) | (with_reducible (first | apply z1 | apply z2 | apply z3 | apply z4) <;> intro hq <;> (try simp only [zH] at hq) <;> (try (exfalso; omega))) | (with_reducible apply z5; (case hl => (repeat (first | exact .nil | with_reducible apply z6 | with_reducible apply z7))); (case h => kernel_rfl))))
    · clear hno
      by_cases c5 : c = 5
      · have g0 : ¬ 0 < g := fun h => hno2 ⟨c5, h⟩
        clear hno2
        subst c5
        (repeat' (first | (simp -implicitDefEqProofs (maxSteps := 2000000) (disch := first | with_reducible assumption | omega | (simp only [zS, zA, seval, wje, wmg, wyd, zD] <;> omega) | fail) only [zS, argl, insA, Go.Den.wm, wo, wu, looks, wbb, wab, idOf, riA, seval, Go.Den.wh, kK, web, wkb, wgd, woc, wyd, weg, wnc, *, zT]) | (with_reducible (first | apply z1 | apply z2 | apply z3 | apply z4) <;> intro hq <;> (try simp only [zH] at hq) <;> (try (exfalso; omega))) | (with_reducible apply z5; (case hl => (repeat (first | exact .nil | with_reducible apply z6 | with_reducible apply z7))); (case h => kernel_rfl))))
      · clear hno2
        (repeat' (first | (simp -implicitDefEqProofs (maxSteps := 2000000) (disch := first | with_reducible assumption | omega | (simp only [zS, zA, seval, wje, wmg, wyd, zD] <;> omega) | fail) only [zS, argl, insA, Go.Den.wm, wo, wu, looks, wbb, wab, idOf, riA, seval, Go.Den.wh, kK, web, wkb, wgd, woc, wyd, weg, wnc, *, zT]) | (with_reducible (first | apply z1 | apply z2 | apply z3 | apply z4) <;> intro hq <;> (try simp only [zH] at hq) <;> (try (exfalso; omega))) | (with_reducible apply z5; (case hl => (repeat (first | exact .nil | with_reducible apply z6 | with_reducible apply z7))); (case h => kernel_rfl))))
  by_cases f4 : f = 4
  · refine ⟨.mk 4 lo (max lo 1 + up) 0 0#256 [(.mk 1 0 0 0 s [])], ?_, by simp [wec, wnb], by simp [Rx.kind]⟩
    rw [wnn, welb]
    subst f4
    refine wmb hc wvb (Nat.le_of_ble_eq_true rfl) (Nat.le_of_ble_eq_true rfl) ?_
    unfold wac
    by_cases c6 : 6 ≤ c
    · by_cases l3 : 3 < l - 2
      · by_cases d3 : deep < 3
        · have g3 : ¬ g < 3 := fun h => hno ⟨c6, l3, d3, h⟩
          clear hno hno2
          (repeat' (first | (simp -implicitDefEqProofs (maxSteps := 2000000) (disch := first | with_reducible assumption | omega | (simp only [zS, zA, seval, wje, wmg, wyd, zD] <;> omega) | fail) only [zS, argl, insA, Go.Den.wm, wo, wu, looks, wbb, wab, idOf, riA, seval, Go.Den.wh, kK, web, wkb, wgd, woc, wyd, weg, wnc, *, zT]) | (with_reducible (first | apply z1 | apply z2 | apply z3 | apply z4) <;> intro hq <;> (try simp only [zH] at hq) <;> (try (exfalso; omega))) | (with_reducible apply z5; (case hl => (repeat (first | exact .nil | with_reducible apply z6 | with_reducible apply z7))); (case h => kernel_rfl))))
        · clear hno hno2
          (repeat' (first | (simp -implicitDefEqProofs (maxSteps := 2000000) (disch := first | with_reducible assumption | omega | (simp only [zS, zA, seval, wje, wmg, wyd, zD] <;> omega) | fail) only [zS, argl, insA, Go.Den.wm, wo, wu, looks, wbb, wab, idOf, riA, seval, Go.Den.wh, kK, web, wkb, wgd, woc, wyd, weg, wnc, *, zT]) | (with_reducible (first | apply z1 | apply z2 | apply z3 | apply z4) <;> intro hq <;> (try simp only [zH] at hq) <;> (try (exfalso; omega))) | (with_reducible apply z5; (case hl => (repeat (first | exact .nil | with_reducible apply z6 | with_reducible apply z7))); (case h => kernel_rfl))))
      · clear hno hno2
        (repeat' (first | (simp -implicitDefEqProofs (maxSteps := 2000000) (disch := first | with_reducible assumption | omega | (simp only [zS, zA, seval, wje, wmg, wyd, zD] <;> omega) | fail) only [zS, argl, insA, Go.Den.wm, wo, wu, looks, wbb, wab, idOf, riA, seval, Go.Den.wh, kK, web, wkb, wgd, woc, wyd, weg, wnc, *, zT]) | (with_reducible (first | apply z1 | apply z2 | apply z3 | apply z4) <;> intro hq <;> (try simp only [zH] at hq) <;> (try (exfalso; omega))) | (with_reducible apply z5; (case hl => (repeat (first | exact .nil | with_reducible apply z6 | with_reducible apply z7))); (case h => kernel_rfl))))
    · clear hno
      by_cases c5 : c = 5
      · have g0 : ¬ 0 < g := fun h => hno2 ⟨c5, h⟩
        clear hno2
        subst c5
        (repeat' (first | (simp -implicitDefEqProofs (maxSteps := 2000000) (disch := first | with_reducible assumption | omega | (simp only [zS, zA, seval, wje, wmg, wyd, zD] <;> omega) | fail) only [zS, argl, insA, Go.Den.wm, wo, wu, looks, wbb, wab, idOf, riA, seval, Go.Den.wh, kK, web, wkb, wgd, woc, wyd, weg, wnc, *, zT]) | (with_reducible (first | apply z1 | apply z2 | apply z3 | apply z4) <;> intro hq <;> (try simp only [zH] at hq) <;> (try (exfalso; omega))) | (with_reducible apply z5; (case hl => (repeat (first | exact .nil | with_reducible apply z6 | with_reducible apply z7))); (case h => kernel_rfl))))
      · clear hno2
        (repeat' (first | (simp -implicitDefEqProofs (maxSteps := 2000000) (disch := first | with_reducible assumption | omega | (simp only [zS, zA, seval, wje, wmg, wyd, zD] <;> omega) | fail) only [zS, argl, insA, Go.Den.wm, wo, wu, looks, wbb, wab, idOf, riA, seval, Go.Den.wh, kK, web, wkb, wgd, woc, wyd, weg, wnc, *, zT]) | (with_reducible (first | apply z1 | apply z2 | apply z3 | apply z4) <;> intro hq <;> (try simp only [zH] at hq) <;> (try (exfalso; omega))) | (with_reducible apply z5; (case hl => (repeat (first | exact .nil | with_reducible apply z6 | with_reducible apply z7))); (case h => kernel_rfl))))
  refine ⟨.mk 4 lo (-1) 0 0#256 [(.mk 1 0 0 0 s [])], ?_, by simp [wec, wnb], by simp [Rx.kind]⟩
  rw [wnn, welb]
  clear h5 i5
  refine wmb hc wvb (Nat.le_of_ble_eq_true rfl) (Nat.le_of_ble_eq_true rfl) ?_
  unfold wac
  by_cases c6 : 6 ≤ c
  · by_cases l3 : 3 < l - 2
    · by_cases d3 : deep < 3
      · have g3 : ¬ g < 3 := fun h => hno ⟨c6, l3, d3, h⟩
        clear hno hno2
        (repeat' (first | (simp -implicitDefEqProofs (maxSteps := 2000000) (disch := first | with_reducible assumption | omega | (simp only [zS, zA, seval, wje, wmg, wyd, zD] <;> omega) | fail) only [zS, argl, insA, Go.Den.wm, wo, wu, looks, wbb, wab, idOf, riA, seval, Go.Den.wh, kK, web, wkb, wgd, woc, wyd, weg, wnc, *, zT]) | (with_reducible (first | apply z1 | apply z2 | apply z3 | apply z4) <;> intro hq <;> (try simp only [zH] at hq) <;> (try (exfalso; omega))) | (with_reducible apply z5; (case hl => (repeat (first | exact .nil | with_reducible apply z6 | with_reducible apply z7))); (case h => kernel_rfl))))
      · clear hno hno2
        (repeat' (first | (simp -implicitDefEqProofs (maxSteps := 2000000) (disch := first | with_reducible assumption | omega | (simp only [zS, zA, seval, wje, wmg, wyd, zD] <;> omega) | fail) only [zS, argl, insA, Go.Den.wm, wo, wu, looks, wbb, wab, idOf, riA, seval, Go.Den.wh, kK, web, wkb, wgd, woc, wyd, weg, wnc, *, zT]) | (with_reducible (first | apply z1 | apply z2 | apply z3 | apply z4) <;> intro hq <;> (try simp only [zH] at hq) <;> (try (exfalso; omega))) | (with_reducible apply z5; (case hl => (repeat (first | exact .nil | with_reducible apply z6 | with_reducible apply z7))); (case h => kernel_rfl))))
    · clear hno hno2
      (repeat' (first | (simp -implicitDefEqProofs (maxSteps := 2000000) (disch := first | with_reducible assumption | omega | (simp only [zS, zA, seval, wje, wmg, wyd, zD] <;> omega) | fail) only [zS, argl, insA, Go.Den.wm, wo, wu, looks, wbb, wab, idOf, riA, seval, Go.Den.wh, kK, web, wkb, wgd, woc, wyd, weg, wnc, *, zT]) | (with_reducible (first | apply z1 | apply z2 | apply z3 | apply z4) <;> intro hq <;> (try simp only [zH] at hq) <;> (try (exfalso; omega))) | (with_reducible apply z5; (case hl => (repeat (first | exact .nil | with_reducible apply z6 | with_reducible apply z7))); (case h => kernel_rfl))))
  · clear hno
    by_cases c5 : c = 5
    · have g0 : ¬ 0 < g := fun h => hno2 ⟨c5, h⟩
      clear hno2
      subst c5
      (repeat' (first | (simp -implicitDefEqProofs (maxSteps := 2000000) (disch := first | with_reducible assumption | omega | (simp only [zS, zA, seval, wje, wmg, wyd, zD] <;> omega) | fail) only [zS, argl, insA, Go.Den.wm, wo, wu, looks, wbb, wab, idOf, riA, seval, Go.Den.wh, kK, web, wkb, wgd, woc, wyd, weg, wnc, *, zT]) | (with_reducible (first | apply z1 | apply z2 | apply z3 | apply z4) <;> intro hq <;> (try simp only [zH] at hq) <;> (try (exfalso; omega))) | (with_reducible apply z5; (case hl => (repeat (first | exact .nil | with_reducible apply z6 | with_reducible apply z7))); (case h => kernel_rfl))))
    · clear hno2
      (repeat' (first | (simp -implicitDefEqProofs (maxSteps := 2000000) (disch := first | with_reducible assumption | omega | (simp only [zS, zA, seval, wje, wmg, wyd, zD] <;> omega) | fail) only [zS, argl, insA, Go.Den.wm, wo, wu, looks, wbb, wab, idOf, riA, seval, Go.Den.wh, kK, web, wkb, wgd, woc, wyd, weg, wnc, *, zT]) | (with_reducible (first | apply z1 | apply z2 | apply z3 | apply z4) <;> intro hq <;> (try simp only [zH] at hq) <;> (try (exfalso; omega))) | (with_reducible apply z5; (case hl => (repeat (first | exact .nil | with_reducible apply z6 | with_reducible apply z7))); (case h => kernel_rfl))))
end
end Go.Proofs.Ytdbhfmdndiphcaa
namespace Go.Proofs.Ytdbhfmdndiphcaa
set_option linter.unusedVariables false
set_option linter.unusedSimpArgs false
open Go.Den
noncomputable section
set_option maxHeartbeats 8000000 in
theorem wxcc (ks ns : List Int) (ere : Bool) (deep : Int) (hd : 0 ≤ deep) (hd2 : deep ≤ 3) (a : Nat) (ha : a ≤ 100000) (g l : Int) (hg : 0 ≤ g) (hg3 : g ≤ 3) (hl : -1000000 ≤ l) (hl2 : l ≤ 1000)
    (hyes : whc (wbk ks a) 0 9 = 5 ∧ 0 < g) :
    ∃ (r : Rx), lim Try.prog cfg (.call 95 [.agg ⟨mkB ks ns ere⟩, .int .i64 deep]) (HP (mkH a g l)) = some (.val (.agg ⟨rxC r⟩), HP (mkH (a + 1 : Nat) g (l - 2))) ∧ wec r ≤ 2 ∧ r.kind ≠ 2 := by
  have h1 := wox ks ns ere a (by omega) g l
  obtain ⟨s, h2⟩ := wtt (wzf ns a)
  have h3 := wke (wbk ks a) 0 9 (by omega) (by omega) (by omega)
  have h4 := wke (wzf ns a) 0 2 (by omega) (by omega) (by omega)
  have h5 := wke (IntKind.wrap .i64 ((wzf ns a).tdiv 8)) 0 2 (by omega) (by omega) (by omega)
  have i4 := wxo (wzf ns a)
  have i5 := wxo (IntKind.wrap .i64 ((wzf ns a).tdiv 8))
  have h6 := wke (wzf ns a) 1 g (by omega) (by omega) (by omega)
  generalize whc (wzf ns a) 1 g = qq at *
  generalize whc (wbk ks a) 0 9 = c at *
  generalize whc (wzf ns a) 0 2 = lo at *
  generalize whc (IntKind.wrap .i64 ((wzf ns a).tdiv 8)) 0 2 = up at *
  generalize wbk ks a = x at *
  generalize wzf ns a = y at *
  obtain ⟨e, he⟩ : ∃ e, IntKind.wrap .i64 ((BitVec.ofInt (IntKind.bits .i64) c &&& BitVec.ofInt (IntKind.bits .i64) 1).toNat : Int) = e := ⟨_, rfl⟩
  obtain ⟨f, hf⟩ : ∃ f, IntKind.wrap .i64 ((BitVec.ofInt (IntKind.bits .i64) y &&& BitVec.ofInt (IntKind.bits .i64) 4).toNat : Int) = f := ⟨_, rfl⟩
  obtain ⟨c5, g0⟩ := hyes
  subst c5
  by_cases q : e = 0
  · refine ⟨(.mk 6 0 0 qq 0#256 []), ?_, by simp [wec, wnb], by simp [Rx.kind]⟩
    rw [wflb]
    subst q
    clear h4 h5 i4 i5 hf
    refine wmb hc wvb (Nat.le_of_ble_eq_true rfl) (Nat.le_of_ble_eq_true rfl) ?_
    unfold wac
    all_goals (repeat' (first | (simp -implicitDefEqProofs (maxSteps := 2000000) (disch := first | with_reducible assumption | omega | (simp only [zS, zA, seval, wje, wmg, wyd, zD] <;> omega) | fail) only [zS, argl, insA, Go.Den.wm, wo, wu, looks, wbb, wab, idOf, riA, seval, Go.Den.wh, kK, web, wkb, wgd, woc, wyd, weg, wnc, *, zT]) | (with_reducible (first | apply z1 | apply z2 | apply z3 | apply z4) <;> intro hq <;> (try simp only [zH] at hq) <;> (try (exfalso; omega))) | (with_reducible apply z5; (case hl => (repeat (first | exact .nil | with_reducible apply z6 | with_reducible apply z7))); (case h => kernel_rfl))))
  by_cases f4 : f = 4
  · refine ⟨.mk 4 lo (max lo 1 + up) 0 0#256 [(.mk 6 0 0 qq 0#256 [])], ?_, by simp [wec, wnb], by simp [Rx.kind]⟩
    rw [wnn, wflb]
    subst f4
    refine wmb hc wvb (Nat.le_of_ble_eq_true rfl) (Nat.le_of_ble_eq_true rfl) ?_
    unfold wac
    all_goals (repeat' (first | (simp -implicitDefEqProofs (maxSteps := 2000000) (disch := first | with_reducible assumption | omega | (simp only [zS, zA, seval, wje, wmg, wyd, zD] <;> omega) | fail) only [zS, argl, insA, Go.Den.wm, wo, wu, looks, wbb, wab, idOf, riA, seval, Go.Den.wh, kK, web, wkb, wgd, woc, wyd, weg, wnc, *, zT]) | (with_reducible (first | apply z1 | apply z2 | apply z3 | apply z4) <;> intro hq <;> (try simp only [zH] at hq) <;> (try (exfalso; omega))) | (with_reducible apply z5; (case hl => (repeat (first | exact .nil | with_reducible apply z6 | with_reducible apply z7))); (case h => kernel_rfl))))
  refine ⟨.mk 4 lo (-1) 0 0#256 [(.mk 6 0 0 qq 0#256 [])], ?_, by simp [wec, wnb], by simp [Rx.kind]⟩
  rw [wnn, wflb]
  clear h5 i5
  refine wmb hc wvb (Nat.le_of_ble_eq_true rfl) (Nat.le_of_ble_eq_true rfl) ?_
  unfold wac
  all_goals (repeat' (first | (simp -implicitDefEqProofs (maxSteps := 2000000) (disch := first | with_reducible assumption | omega | (simp only [zS, zA, seval, wje, wmg, wyd, zD] <;> omega) | fail) only [zS, argl, insA, Go.Den.wm, wo, wu, looks, wbb, wab, idOf, riA, seval, Go.Den.wh, kK, web, wkb, wgd, woc, wyd, weg, wnc, *, zT]) | (with_reducible (first | apply z1 | apply z2 | apply z3 | apply z4) <;> intro hq <;> (try simp only [zH] at hq) <;> (try (exfalso; omega))) | (with_reducible apply z5; (case hl => (repeat (first | exact .nil | with_reducible apply z6 | with_reducible apply z7))); (case h => kernel_rfl))))
end
end Go.Proofs.Ytdbhfmdndiphcaa
namespace Go.Proofs.Ytdbhfmdndiphcaa
set_option linter.unusedVariables false
set_option linter.unusedSimpArgs false
open Go.Den
noncomputable section
set_option maxHeartbeats 8000000 in
theorem wrsb (ks ns : List Int) (ere : Bool) (deep : Int) (hd : 0 ≤ deep) (hd2 : deep ≤ 3) (M : Nat) (hrow : MkOk ks ns ere 57 [.int .i64 (deep + 1)] M) (a : Nat) (ha : a + M + 2 ≤ 100000) (g l : Int) (hg : 0 ≤ g) (hg3 : g ≤ 3) (hl : -1000000 + 2 * (M : Int) + 4 ≤ l) (hl2 : l ≤ 1000)
    (hyes : 6 ≤ whc (wbk ks a) 0 9 ∧ 3 < l - 2 ∧ deep < 3 ∧ g < 3) :
    ∃ (r : Rx) (a' : Nat) (g' l' : Int), lim Try.prog cfg (.call 95 [.agg ⟨mkB ks ns ere⟩, .int .i64 deep]) (HP (mkH a g l)) = some (.val (.agg ⟨rxC r⟩), HP (mkH a' g' l')) ∧ wec r ≤ M + 2 ∧ r.kind ≠ 2 ∧ a' ≤ a + M + 2 ∧ 0 ≤ g' ∧ g' ≤ 3 ∧ l - 2 * (M : Int) - 4 ≤ l' ∧ l' ≤ l := by
  obtain ⟨c6, l3, d3, g3⟩ := hyes
  obtain ⟨r0, a2, g2, l2, hr, n0, b1, b2, b3, b4, b5⟩ := hrow (a + 1) (g + 1) (l - 2) (by omega) (by omega) (by omega) (by omega) (by omega)
  clear hrow
  have h1 := wox ks ns ere a (by omega) g l
  obtain ⟨s, h2⟩ := wtt (wzf ns a)
  have h3 := wke (wbk ks a) 0 9 (by omega) (by omega) (by omega)
  have h4 := wke (wzf ns a) 0 2 (by omega) (by omega) (by omega)
  have h5 := wke (IntKind.wrap .i64 ((wzf ns a).tdiv 8)) 0 2 (by omega) (by omega) (by omega)
  have i4 := wxo (wzf ns a)
  have i5 := wxo (IntKind.wrap .i64 ((wzf ns a).tdiv 8))
  generalize whc (wbk ks a) 0 9 = c at *
  generalize whc (wzf ns a) 0 2 = lo at *
  generalize whc (IntKind.wrap .i64 ((wzf ns a).tdiv 8)) 0 2 = up at *
  generalize wbk ks a = x at *
  generalize wzf ns a = y at *
  obtain ⟨e, he⟩ : ∃ e, IntKind.wrap .i64 ((BitVec.ofInt (IntKind.bits .i64) c &&& BitVec.ofInt (IntKind.bits .i64) 1).toNat : Int) = e := ⟨_, rfl⟩
  obtain ⟨f, hf⟩ : ∃ f, IntKind.wrap .i64 ((BitVec.ofInt (IntKind.bits .i64) y &&& BitVec.ofInt (IntKind.bits .i64) 4).toNat : Int) = f := ⟨_, rfl⟩
  by_cases q : e = 0
  · refine ⟨.mk 5 0 0 (g + 1) 0#256 [r0], a2, g2, l2, ?_, by rw [wec, wnb, wnb]; omega, by simp [Rx.kind], by omega, b2, b3, by omega, by omega⟩
    rw [wnn]
    subst q
    clear h4 h5 i4 i5 hf
    refine wmb hc wvb (Nat.le_of_ble_eq_true rfl) (Nat.le_of_ble_eq_true rfl) ?_
    unfold wac
    all_goals (repeat' (first | (simp -implicitDefEqProofs (maxSteps := 2000000) (disch := first | with_reducible assumption | omega | (simp only [zS, zA, seval, wje, wmg, wyd, zD] <;> omega) | fail) only [zS, argl, insA, Go.Den.wm, wo, wu, looks, wbb, wab, idOf, riA, seval, Go.Den.wh, kK, web, wkb, wgd, woc, wyd, weg, wnc, *, zT]) | (with_reducible (first | apply z1 | apply z2 | apply z3 | apply z4) <;> intro hq <;> (try simp only [zH] at hq) <;> (try (exfalso; omega))) | (with_reducible apply z5; (case hl => (repeat (first | exact .nil | with_reducible apply z6 | with_reducible apply z7))); (case h => kernel_rfl))))
  by_cases f4 : f = 4
  · refine ⟨.mk 4 lo (max lo 1 + up) 0 0#256 [.mk 5 0 0 (g + 1) 0#256 [r0]], a2, g2, l2, ?_, by rw [wec, wnb, wnb, wec, wnb, wnb]; omega, by simp [Rx.kind], by omega, b2, b3, by omega, by omega⟩
    rw [wnn, wnn]
    subst f4
    refine wmb hc wvb (Nat.le_of_ble_eq_true rfl) (Nat.le_of_ble_eq_true rfl) ?_
    unfold wac
    all_goals (repeat' (first | (simp -implicitDefEqProofs (maxSteps := 2000000) (disch := first | with_reducible assumption | omega | (simp only [zS, zA, seval, wje, wmg, wyd, zD] <;> omega) | fail) only [zS, argl, insA, Go.Den.wm, wo, wu, looks, wbb, wab, idOf, riA, seval, Go.Den.wh, kK, web, wkb, wgd, woc, wyd, weg, wnc, *, zT]) | (with_reducible (first | apply z1 | apply z2 | apply z3 | apply z4) <;> intro hq <;> (try simp only [zH] at hq) <;> (try (exfalso; omega))) | (with_reducible apply z5; (case hl => (repeat (first | exact .nil | with_reducible apply z6 | with_reducible apply z7))); (case h => kernel_rfl))))
  refine ⟨.mk 4 lo (-1) 0 0#256 [.mk 5 0 0 (g + 1) 0#256 [r0]], a2, g2, l2, ?_, by rw [wec, wnb, wnb, wec, wnb, wnb]; omega, by simp [Rx.kind], by omega, b2, b3, by omega, by omega⟩
  rw [wnn, wnn]
  clear h5 i5
  refine wmb hc wvb (Nat.le_of_ble_eq_true rfl) (Nat.le_of_ble_eq_true rfl) ?_
  unfold wac
  all_goals (repeat' (first | (simp -implicitDefEqProofs (maxSteps := 2000000) (disch := first | with_reducible assumption | omega | (simp only [zS, zA, seval, wje, wmg, wyd, zD] <;> omega) | fail) only [zS, argl, insA, Go.Den.wm, wo, wu, looks, wbb, wab, idOf, riA, seval, Go.Den.wh, kK, web, wkb, wgd, woc, wyd, weg, wnc, *, zT]) | (with_reducible (first | apply z1 | apply z2 | apply z3 | apply z4) <;> intro hq <;> (try simp only [zH] at hq) <;> (try (exfalso; omega))) | (with_reducible apply z5; (case hl => (repeat (first | exact .nil | with_reducible apply z6 | with_reducible apply z7))); (case h => kernel_rfl))))
end
end Go.Proofs.Ytdbhfmdndiphcaa
namespace Go.Proofs.Ytdbhfmdndiphcaa
set_option linter.unusedVariables false
set_option linter.unusedSimpArgs false
open Go.Den
noncomputable section
theorem wvcb (ks ns : List Int) (ere : Bool) (deep : Int) (hd : 0 ≤ deep) (hd2 : deep ≤ 3) (M : Nat) (hrow : deep < 3 → MkOk ks ns ere 57 [.int .i64 (deep + 1)] M) : wwcc ks ns ere 95 [.int .i64 deep] (M + 2) := by
  intro a g l ha hg hg3 hl hl2
  by_cases h1 : 6 ≤ whc (wbk ks a) 0 9 ∧ 3 < l - 2 ∧ deep < 3 ∧ g < 3
  · obtain ⟨r, a', g', l', e, b1, nk, b2, b3, b4, b5, b6⟩ := wrsb ks ns ere deep hd hd2 M (hrow h1.2.2.1) a (by omega) g l hg hg3 (by omega) hl2 h1
    exact ⟨r, a', g', l', e, b1, nk, by omega, b3, b4, by omega, b6⟩
  · by_cases h2 : whc (wbk ks a) 0 9 = 5 ∧ 0 < g
    · obtain ⟨r, e, b1, nk⟩ := wxcc ks ns ere deep hd hd2 a (by omega) g l hg hg3 (by omega) hl2 h2
      exact ⟨r, a + 1, g, l - 2, e, by omega, nk, by omega, hg, hg3, by omega, by omega⟩
    · obtain ⟨r, e, b1, nk⟩ := part_set ks ns ere deep hd hd2 a (by omega) g l hg hg3 (by omega) hl2 h1 h2
      exact ⟨r, a + 1, g, l - 2, e, by omega, nk, by omega, hg, hg3, by omega, by omega⟩
abbrev rxZ : List Value := [.int .i64 0, .int .i64 0, .int .i64 0, .int .i64 0, .int .u64 0, .int .u64 0, .int .u64 0, .int .u64 0, .slice none 0 0]
abbrev ptH (ks ns : List Int) (ere : Bool) (a g l : Int) : List ABlk := mkH a g l ++ [X (mkB ks ns ere) 109 0 false, X rxZ 47 0 false]
theorem wqnb {l : List Rx} {r : Rx} : rxsC (l ++ [r]) = rxsC l ++ rxC r := by rw [wpp, wpp, List.flatMap_append]; simp
theorem waab {l : List Rx} {r : Rx} : wnb (l ++ [r]) = wnb l + wec r := by
  induction l with
  | nil => rw [List.nil_append, wnb, wnb, wnb]; omega
  | cons a l ih => rw [List.cons_append, wnb, wnb, ih]; omega
set_option maxHeartbeats 8000000 in
theorem wglb (ks ns : List Int) (ere : Bool) (deep n : Int) (hn : n ≤ 3) (M : Nat) (hM : M ≤ 20000) (hp : wwcc ks ns ere 95 [.int .i64 deep] M) : ∀ (k i : Nat) (out : List Rx) (a : Nat) (g l : Int), (i : Int) + k = n → out ≠ [] → (∀ x ∈ out, x.kind ≠ 2) → out.length ≤ i → a + k * M ≤ 100000 → 0 ≤ g → g ≤ 3 → -1000000 + 2 * ((k * M : Nat) : Int) ≤ l → l ≤ 1000 →
    ∃ (rs : List Rx) (a' : Nat) (g' l' : Int), lim Try.prog cfg (.loop 77 3 (wjd 0) (SE (EJ 26 G0) [(9, .int .i64 i), (8, .int .i64 n), (7, FO 5 out.length (rxsC out)), (6, .pointer (some ⟨4, 0, none⟩)), (3, .pointer (some ⟨3, 0, none⟩)), (1, .int .i64 deep)])) (HP (ptH ks ns ere a g l ++ [.tok out.length 47 9]))
      = some (.code (.exit 0) (SE (EJ 26 G0) [(7, FO 4 rs.length (rxsC rs)), (6, .pointer (some ⟨3, 0, none⟩))]), HP (mkH a' g' l' ++ [X rxZ 47 0 false, .tok rs.length 47 9]))
      ∧ rs.length = out.length + k ∧ (∀ x ∈ rs, x.kind ≠ 2) ∧ wnb rs ≤ wnb out + k * M ∧ a' ≤ a + k * M ∧ 0 ≤ g' ∧ g' ≤ 3 ∧ l - 2 * ((k * M : Nat) : Int) ≤ l' ∧ l' ≤ l := by
  intro k
  induction k with
  | zero =>
    intro i out a g l hi ho hk2 hlen ha hg hg3 hl hl2
    refine ⟨out, a, g, l, ?_, by omega, hk2, by omega, by omega, hg, hg3, by omega, by omega⟩
    clear hp hk2
    refine wdb wge ?_
    unfold wqd
    (repeat' (first | (simp -implicitDefEqProofs (maxSteps := 2000000) (disch := first | with_reducible assumption | omega | (simp only [zS, zA, seval, zD] <;> omega) | fail) only [zS, argl, insA, Go.Den.wm, wo, wu, looks, wbb, wab, idOf, riA, seval, Go.Den.wh, kK, wbd, *, zT]) | (with_reducible (first | apply z1 | apply z2 | apply z3 | apply z4) <;> intro hq <;> (try simp only [zH] at hq) <;> (try (exfalso; omega)))))
  | succ k ih =>
    intro i out a g l hi ho hk2 hlen ha hg hg3 hl hl2
    rw [Nat.succ_mul] at ha hl ⊢
    obtain ⟨r, a1, g1, l1, e1, n1, nk, b1, b2, b3, b4, b5⟩ := hp a g l (by omega) hg hg3 (by omega) hl2
    obtain ⟨rs, a2, g2, l2, e2, n2, nks, n3, c1, c2, c3, c4, c5⟩ := ih (i + 1) (out ++ [r]) a1 g1 l1 (by omega) (by simp) (fun x hx => by rcases List.mem_append.1 hx with h | h; exact hk2 x h; rw [List.mem_singleton] at h; subst h; exact nk) (by simp; omega) (by omega) b2 b3 (by omega) (by omega)
    rw [waab] at n3
    rw [List.length_append, List.length_singleton] at n2
    refine ⟨rs, a2, g2, l2, ?_, by omega, nks, by omega, by omega, c2, c3, by omega, by omega⟩
    rw [show (out ++ [r]).length = out.length + 1 by simp, wqnb] at e2
    clear hp ih n1 b1 b4 b5 n2 n3 c1 c4 c5 nk nks hk2
    refine wdb wge ?_
    unfold wqd
    (repeat' (first | (simp -implicitDefEqProofs (maxSteps := 2000000) (disch := first | with_reducible assumption | omega | (simp only [zS, zA, seval, zD] <;> omega) | fail) only [zS, argl, insA, Go.Den.wm, wo, wu, looks, wbb, wab, idOf, riA, seval, Go.Den.wh, kK, wbd, *, zT]) | (with_reducible (first | apply z1 | apply z2 | apply z3 | apply z4) <;> intro hq <;> (try simp only [zH] at hq) <;> (try (exfalso; omega)))))
    all_goals first | exact e2 | trace_state
end
end Go.Proofs.Ytdbhfmdndiphcaa
namespace Go.Proofs.Ytdbhfmdndiphcaa
set_option linter.unusedVariables false
set_option linter.unusedSimpArgs false
open Go.Den
noncomputable section
theorem wbab {r : Rx} : rxsC [r] = rxC r := by rw [rxsC, rxsC, List.append_nil]
theorem wzq {k : Int} {l : List Rx} : rxC (.mk k 0 0 0 0#256 l) = [.int .i64 k, .int .i64 0, .int .i64 0, .int .i64 0, .int .u64 0, .int .u64 0, .int .u64 0, .int .u64 0, FL l.length (rxsC l)] := by rw [rxC]; rfl
set_option maxHeartbeats 8000000 in
theorem whlb (ks ns : List Int) (ere : Bool) (deep n : Int) (hn : n ≤ 3) (M : Nat) (hM : M ≤ 20000) (hp : wwcc ks ns ere 95 [.int .i64 deep] M) (k : Nat) (a : Nat) (g l : Int) (hi : (k : Int) + 1 = n) (ha : a + (k * M + M) ≤ 100000) (hg : 0 ≤ g) (hg3 : g ≤ 3) (hl : -1000000 + 2 * ((k * M + M : Nat) : Int) ≤ l) (hl2 : l ≤ 1000) :
    ∃ (rs : List Rx) (a' : Nat) (g' l' : Int), lim Try.prog cfg (.loop 77 3 (wjd 0) (SE (EJ 26 G0) [(9, .int .i64 0), (8, .int .i64 n), (7, .slice none 0 0), (6, .pointer (some ⟨4, 0, none⟩)), (3, .pointer (some ⟨3, 0, none⟩)), (1, .int .i64 deep)])) (HP (ptH ks ns ere a g l))
      = some (.code (.exit 0) (SE (EJ 26 G0) [(7, FO 4 rs.length (rxsC rs)), (6, .pointer (some ⟨3, 0, none⟩))]), HP (mkH a' g' l' ++ [X rxZ 47 0 false, .tok rs.length 47 9]))
      ∧ rs.length = k + 1 ∧ (∀ x ∈ rs, x.kind ≠ 2) ∧ wnb rs ≤ k * M + M ∧ a' ≤ a + (k * M + M) ∧ 0 ≤ g' ∧ g' ≤ 3 ∧ l - 2 * ((k * M + M : Nat) : Int) ≤ l' ∧ l' ≤ l := by
  obtain ⟨r, a1, g1, l1, e1, n1, nk, b1, b2, b3, b4, b5⟩ := hp a g l (by omega) hg hg3 (by omega) hl2
  obtain ⟨rs, a2, g2, l2, e2, n2, nks, n3, c1, c2, c3, c4, c5⟩ := wglb ks ns ere deep n hn M hM hp k 1 [r] a1 g1 l1 (by omega) (by simp) (fun x hx => by rw [List.mem_singleton] at hx; subst hx; exact nk) (by simp) (by omega) b2 b3 (by omega) (by omega)
  rw [wnb, wnb] at n3
  rw [List.length_singleton] at n2
  refine ⟨rs, a2, g2, l2, ?_, by omega, nks, by omega, by omega, c2, c3, by omega, by omega⟩
  rw [List.length_singleton, wbab, show ((1 : Nat) : Int) = 1 from rfl] at e2
  have hn0 : 0 < n := by omega
  clear hp n1 b1 b4 b5 n2 n3 c1 c4 c5 hi ha hl nk nks
  refine wdb wge ?_
  unfold wqd
  (repeat' (first | (simp -implicitDefEqProofs (maxSteps := 2000000) (disch := first | with_reducible assumption | omega | (simp only [zS, zA, seval, zD] <;> omega) | fail) only [zS, argl, insA, Go.Den.wm, wo, wu, looks, wbb, wab, idOf, riA, seval, Go.Den.wh, kK, wbd, *, zT]) | (with_reducible (first | apply z1 | apply z2 | apply z3 | apply z4) <;> intro hq <;> (try simp only [zH] at hq) <;> (try (exfalso; omega)))))
  all_goals first | exact e2 | trace_state
def rxK (t n : Nat) (c : List Value) : List Value := [.int .i64 2, .int .i64 0, .int .i64 0, .int .i64 0, .int .u64 0, .int .u64 0, .int .u64 0, .int .u64 0, FO t n c]
def PkOk (ks ns : List Int) (ere : Bool) (args : List Value) (M : Nat) : Prop :=
  ∀ (a : Nat) (g l : Int), a + M ≤ 100000 → 0 ≤ g → g ≤ 3 → -1000000 + 2 * (M : Int) ≤ l → l ≤ 1000 →
    ∃ (r : Rx) (a' : Nat) (g' l' : Int), ((lim Try.prog cfg (.call 77 (.agg ⟨mkB ks ns ere⟩ :: args)) (HP (mkH a g l)) = some (.val (.agg ⟨rxC r⟩), HP (mkH a' g' l')) ∧ r.kind ≠ 2) ∨
      ∃ rs : List Rx, r = .mk 2 0 0 0 0#256 rs ∧ 2 ≤ rs.length ∧ rs.length ≤ 3 ∧ lim Try.prog cfg (.call 77 (.agg ⟨mkB ks ns ere⟩ :: args)) (HP (mkH a g l)) = some (.val (.agg ⟨rxK 3 rs.length (rxsC rs)⟩), HP (mkH a' g' l' ++ [.tok rs.length 47 9])))
      ∧ wec r ≤ M ∧ a' ≤ a + M ∧ 0 ≤ g' ∧ g' ≤ 3 ∧ l - 2 * (M : Int) ≤ l' ∧ l' ≤ l
set_option maxHeartbeats 8000000 in
theorem wwcb (ks ns : List Int) (ere : Bool) (deep n : Int) (hn : n ≤ 3) (M : Nat) (hM : M ≤ 20000) (hp : wwcc ks ns ere 95 [.int .i64 deep] M) (k : Nat) (hi : (k : Int) + 1 = n) : PkOk ks ns ere [.int .i64 deep, .int .i64 n] (1 + (k * M + M)) := by
  intro a g l ha hg hg3 hl hl2
  obtain ⟨rs, a2, g2, l2, e2, n2, nks, n3, c1, c2, c3, c4, c5⟩ := whlb ks ns ere deep n hn M hM hp k a g l hi (by omega) hg hg3 (by omega) hl2
  simp only [ptH, mkH, List.cons_append, List.nil_append] at e2
  clear hp
  have hlen : rs.length ≤ 3 := by omega
  by_cases h1 : rs.length = 1
  · match rs, h1 with
    | [r], _ =>
      rw [wnb, wnb] at n3
      refine ⟨r, a2, g2, l2, .inl ⟨?_, nks r (List.mem_singleton.2 rfl)⟩, by omega, by omega, c2, c3, by omega, by omega⟩
      rw [List.length_singleton, wbab] at e2
      clear n2 n3 c1 c4 c5 hi ha hl hlen nks
      refine wmb hc wfh (Nat.le_of_ble_eq_true rfl) (Nat.le_of_ble_eq_true rfl) ?_
      unfold wbg
      (repeat' (first | (simp -implicitDefEqProofs (maxSteps := 2000000) (disch := first | with_reducible assumption | omega | (simp only [zS, zA, seval, wmg, wyd, zD] <;> omega) | fail) only [zS, argl, insA, Go.Den.wm, wo, wu, looks, wbb, wab, idOf, riA, seval, Go.Den.wh, kK, wbd, woc, wyd, weg, wnc, *, zT]) | (with_reducible (first | apply z1 | apply z2 | apply z3 | apply z4) <;> intro hq <;> (try simp only [zH] at hq) <;> (try (exfalso; omega)))))
  · refine ⟨.mk 2 0 0 0 0#256 rs, a2, g2, l2, .inr ⟨rs, rfl, by omega, hlen, ?_⟩, by rw [wec]; omega, by omega, c2, c3, by omega, by omega⟩
    have h2 : ¬ (rs.length : Int) = 1 := by omega
    clear n2 n3 c1 c4 c5 hi ha hl h1 nks
    simp only [rxK, mkH, List.cons_append, List.nil_append]
    refine wmb hc wfh (Nat.le_of_ble_eq_true rfl) (Nat.le_of_ble_eq_true rfl) ?_
    unfold wbg
    (repeat' (first | (simp -implicitDefEqProofs (maxSteps := 2000000) (disch := first | with_reducible assumption | omega | (simp only [zS, zA, seval, wmg, wun, wyd, zD] <;> omega) | fail) only [zS, argl, insA, Go.Den.wm, wo, wu, looks, wbb, wab, idOf, riA, seval, Go.Den.wh, kK, wbd, woc, wyd, weg, wnc, *, zT]) | (with_reducible (first | apply z1 | apply z2 | apply z3 | apply z4) <;> intro hq <;> (try simp only [zH] at hq) <;> (try (exfalso; omega)))))
end
end Go.Proofs.Ytdbhfmdndiphcaa
namespace Go.Den
noncomputable section
theorem wvh : nfL [] = [] := rfl
theorem wdf {v : Value} {r : List Value} : nfL (v :: r) = nfV v :: nfL r := rfl
theorem whk {k : IntKind} {n : Int} : nfV (.int k n) = .int k n := rfl
theorem wxp {n : Nat} {cs : List Value} : nfV (FL n cs) = FL n cs := rfl
theorem wwh : nfV (.slice none 0 0) = FL 0 [] := rfl
theorem wpl {h : List ABlk} (hh : h.length ≤ 1099511627774) {elem size bytes t len n : Nat} {cs new : List Value} (ht : t < h.length) (hn : len + n ≤ 16777216) (hb : bytes ≤ 1048576) (hc : cs.length = len * size) (ha : whf (nfL new) = true) :
    appN h elem size bytes (FO t len cs) n new = appT h elem size t len n cs (nfL new) h[t]? := by
  show (bif roomy (len + n) bytes then wmm (HP h) elem size t len cs (nfL new) n else .none) = _
  have h1 : roomy (len + n) bytes = true := by unfold roomy; rw [nble, nble, decide_eq_true hn, decide_eq_true hb]; rfl
  rw [h1, cond_true]
  generalize nfL new = new at *
  unfold wmm
  rw [wci h hh]
  cases hq : h[t]? with
  | none => rfl
  | some b =>
    cases b with
    | cells b => rfl
    | map es => rfl
    | tok m el es =>
      show (bif wyp m el es elem size t len cs new then _ else _) = (bif decide (m = len ∧ el = elem ∧ es = size) then _ else _)
      have h2 : wyp m el es elem size t len cs new = decide (m = len ∧ el = elem ∧ es = size) := by
        unfold wyp
        rw [wuj ha, wvo ha, hc, Nat.beq_refl, wkh (by omega), nbeq, nbeq, nbeq]
        by_cases q1 : m = len <;> by_cases q2 : el = elem <;> by_cases q3 : es = size <;> simp [q1, q2, q3]
      rw [h2, whs _ _ _ ht]
      by_cases q : m = len ∧ el = elem ∧ es = size
      · obtain ⟨rfl, rfl, rfl⟩ := q; rfl
      · rw [decide_eq_false q]; rfl
theorem wycc {h : List ABlk} {elem size bytes : Nat} {s : Value} {t n : Nat} {cs : List Value} (h0 : 0 < n) (hc : n * size ≤ cs.length) : appA true (HP h) elem size bytes s (FO t n cs) = appN h elem size bytes s n (slotsOf cs 0 (n * size)) := by
  have h1 : appA true (HP h) elem size bytes s (FO t n cs) = appA true (HP h) elem size bytes s (FL n cs) := rfl
  rw [h1, app_FL h0 hc]
def appE (h : List ABlk) (elem size : Nat) (len n : Nat) (new : List Value) : Option ABlk → ARes
  | some (.cells b) => bif decide (len * size ≤ b.cells.length) then wgi true (HP h) elem size (slotsOf b.cells 0 (len * size) ++ new) (len + n) else .none
  | _ => .none
theorem wui {h : List ABlk} (hh : h.length ≤ 1099511627774) {elem size bytes i len c n : Nat} {new : List Value} (hx : wmbc h[i]? = true) (hc : len + 1 ≤ c) (hg : c < len + 1 + n) (hr : len + 1 + n ≤ 16777216) (hb : bytes ≤ 1048576) :
    appN h elem size bytes (.slice (some ⟨i, 0, none⟩) (len + 1) (c + 1)) n new = appE h elem size (len + 1) n new h[i]? := by
  show (bif roomy (len + 1 + n) bytes && Nat.ble (len + 1) c then wnm true (HP h) elem size (.slice (some ⟨i, 0, none⟩) (len + 1) (c + 1)) ⟨i, 0, none⟩ (len + 1) c n new else .none) = _
  have h1 : roomy (len + 1 + n) bytes = true := by unfold roomy; rw [nble, nble, decide_eq_true hr, decide_eq_true hb]; rfl
  rw [h1, nble, decide_eq_true hc]
  unfold wnm
  rw [nble, decide_eq_false (by omega)]
  have h2 : wcj (HP h) size (len + 1) (.slice (some ⟨i, 0, none⟩) (len + 1) (c + 1)) = match whh (HP h) ⟨i, 0, none⟩ ((len + 1) * size) with
    | some b => some (slotsOf b.cells 0 ((len + 1) * size))
    | none => none := by
    show (bif Nat.ble (len + 1) (len + 1) && Nat.blt 0 (len + 1) then _ else none) = _
    rw [nble, nblt, decide_eq_true (Nat.le_refl _), decide_eq_true (Nat.succ_pos _)]
    rfl
  simp only [h2, Bool.and_self, cond_true, cond_false]
  unfold whh
  rw [wci h hh]
  cases hq : h[i]? with
  | none => rw [hq] at hx; cases hx
  | some b =>
    rw [hq] at hx
    cases b with
    | cells b =>
      have hx : (isNil b.lens && Nat.beq b.wver 0) = true := hx
      simp only [Bool.and_eq_true, Nat.beq_eq] at hx
      obtain ⟨h3, h4⟩ := hx
      have h5 : b.lens = [] := by cases hl : b.lens with | nil => rfl | cons a r => rw [hl] at h3; cases h3
      have h6 : rdOk b (aver ⟨i, 0, none⟩) (0 + (len + 1) * size) = decide ((len + 1) * size ≤ b.cells.length) := by
        unfold rdOk
        have e1 : b.top = 0 := by unfold CBlk.top; rw [h5]; rfl
        have e2 : b.lenAt 0 = b.cells.length := by unfold CBlk.lenAt; rw [h5]
        rw [h4, e1]
        show (Nat.ble 0 0 && (Nat.ble 0 0 && Nat.ble (0 + (len + 1) * size) (b.lenAt 0))) = _
        rw [e2, Nat.zero_add, nble, nble]
        simp
      simp only [h6]
      by_cases hk : (len + 1) * size ≤ b.cells.length
      · simp only [decide_eq_true hk, cond_true, appE]
      · simp only [decide_eq_false hk, cond_false, appE]
    | map es => cases hx
    | tok a b c => cases hx
theorem wfu {h : List ABlk} (hh : h.length ≤ 1099511627774) {elem size len n : Nat} {cs new : List Value} {t z : Nat} {pf : Bool} (hl : len * size ≤ cs.length) (ha : whf (nfL (slotsOf cs 0 (len * size) ++ new)) = true) :
    appE h elem size len n new (some (X cs t z pf)) = .eff (FO h.length (len + n) (nfL (slotsOf cs 0 (len * size) ++ new))) (HP (h ++ [.tok (len + n) elem size])) := by
  show (bif decide (len * size ≤ cs.length) then wgi true (HP h) elem size (slotsOf cs 0 (len * size) ++ new) (len + n) else .none) = _
  rw [decide_eq_true hl, cond_true]
  show (bif wsx (HP h) (nfL (slotsOf cs 0 (len * size) ++ new)) then ARes.eff (FO (HP h).n (len + n) (nfL (slotsOf cs 0 (len * size) ++ new))) ((HP h).push (.tok (len + n) elem size)) else .none) = _
  have h2 : wsx (HP h) (nfL (slotsOf cs 0 (len * size) ++ new)) = true := by
    unfold wsx
    rw [wuj ha, wvo ha, HP_n, wkh hh]; rfl
  rw [h2, cond_true, HP_n, wuk]
end
end Go.Den
namespace Go.Proofs.Ytdbhfmdndiphcaa
set_option linter.unusedVariables false
set_option linter.unusedSimpArgs false
open Go.Den
noncomputable section
theorem wxh {l : List Rx} : nfL (rxsC l) = rxsC l := (wun l).2.2.2.2.2.1
theorem wyh {a b : List Value} : nfL (a ++ b) = nfL a ++ nfL b := by
  induction a with
  | nil => rfl
  | cons v a ih => rw [List.cons_append, wdf, wdf, ih, List.cons_append]
theorem wzcc {l : List Rx} : slotsOf (rxsC l) 0 (l.length * 9) = rxsC l := by
  unfold slotsOf
  rw [List.drop_zero, ← wpt, List.take_length]
theorem rx_begin : rxC (.mk 7 0 0 0 0#256 []) = [.int .i64 7, .int .i64 0, .int .i64 0, .int .i64 0, .int .u64 0, .int .u64 0, .int .u64 0, .int .u64 0, FL 0 []] := by rw [rxC, rxsC]; rfl
theorem rx_end : rxC (.mk 8 0 0 0 0#256 []) = [.int .i64 8, .int .i64 0, .int .i64 0, .int .i64 0, .int .u64 0, .int .u64 0, .int .u64 0, .int .u64 0, FL 0 []] := by rw [rxC, rxsC]; rfl
theorem rxs_cons {r : Rx} {l : List Rx} : rxsC (r :: l) = rxC r ++ rxsC l := by rw [rxsC]
set_option maxHeartbeats 8000000 in
theorem wadc (ks ns : List Int) (ere : Bool) (deep : Int) (hd : 0 ≤ deep) (hd2 : deep ≤ 3) (M : Nat) (a : Nat) (g l : Int) (hp : PkOk ks ns ere [.int .i64 deep, .int .i64 (1 + whc (wzf ns a) 0 2)] M) (ha : a + (M + 1) ≤ 100000) (hg : 0 ≤ g) (hg3 : g ≤ 3) (hl : -1000000 + 2 * (M : Int) + 2 ≤ l) (hl2 : l ≤ 1000)
    (hno : ¬ (ere = true ∧ whc (wbk ks a) 0 9 = 9 ∧ 4 < l - 1 ∧ deep < 3)) :
    ∃ (r : Rx) (a' : Nat) (g' l' : Int), lim Try.prog cfg (.call 57 [.agg ⟨mkB ks ns ere⟩, .int .i64 deep]) (HP (mkH a g l)) = some (.val (.agg ⟨rxC r⟩), HP (mkH a' g' l')) ∧ wec r ≤ M + 1 ∧ a' ≤ a + (M + 1) ∧ 0 ≤ g' ∧ g' ≤ 3 ∧ l - 2 * (M : Int) - 2 ≤ l' ∧ l' ≤ l := by
  have h1 := wox ks ns ere a (by omega) g l
  have h3 := wke (wbk ks a) 0 9 (by omega) (by omega) (by omega)
  have h4 := wke (wzf ns a) 0 2 (by omega) (by omega) (by omega)
  have i4 := wxo (wzf ns a)
  generalize whc (wbk ks a) 0 9 = c at *
  generalize whc (wzf ns a) 0 2 = w at *
  generalize wbk ks a = x at *
  generalize wzf ns a = y at *
  obtain ⟨r, a2, g2, l2, e2, n2, b1, b2, b3, b4, b5⟩ := hp (a + 1) g (l - 1) (by omega) hg hg3 (by omega) (by omega)
  clear hp
  rcases e2 with ⟨e2, k2⟩ | ⟨rs, hr, hr2, hr3, e2⟩
  · refine ⟨r, a2, g2, l2, ?_, by omega, by omega, b2, b3, by omega, by omega⟩
    clear n2 b1 b4 b5 ha
    refine wmb hc wfd (Nat.le_of_ble_eq_true rfl) (Nat.le_of_ble_eq_true rfl) ?_
    unfold wdd
    cases ere with
    | false =>
      clear hno
      (repeat' (first | (simp -implicitDefEqProofs (maxSteps := 2000000) (disch := first | with_reducible assumption | omega | (simp only [zS, zA, seval, wmg, zD] <;> omega) | fail) only [zS, argl, insA, Go.Den.wm, wo, wu, looks, wbb, wab, idOf, riA, seval, Go.Den.wh, kK, web, wkb, *, zT]) | (with_reducible (first | apply z1 | apply z2 | apply z3 | apply z4) <;> intro hq <;> (try simp only [zH] at hq) <;> (try (exfalso; omega))) | (with_reducible apply z5; (case hl => (repeat (first | exact .nil | with_reducible apply z6 | with_reducible apply z7))); (case h => kernel_rfl))))
    | true =>
      by_cases c9 : c = 9
      · by_cases l4 : 4 < l - 1
        · have d3 : ¬ deep < 3 := fun h => hno ⟨rfl, c9, l4, h⟩
          clear hno
          subst c9
          (repeat' (first | (simp -implicitDefEqProofs (maxSteps := 2000000) (disch := first | with_reducible assumption | omega | (simp only [zS, zA, seval, wmg, zD] <;> omega) | fail) only [zS, argl, insA, Go.Den.wm, wo, wu, looks, wbb, wab, idOf, riA, seval, Go.Den.wh, kK, web, wkb, *, zT]) | (with_reducible (first | apply z1 | apply z2 | apply z3 | apply z4) <;> intro hq <;> (try simp only [zH] at hq) <;> (try (exfalso; omega))) | (with_reducible apply z5; (case hl => (repeat (first | exact .nil | with_reducible apply z6 | with_reducible apply z7))); (case h => kernel_rfl))))
        · clear hno
          subst c9
          (repeat' (first | (simp -implicitDefEqProofs (maxSteps := 2000000) (disch := first | with_reducible assumption | omega | (simp only [zS, zA, seval, wmg, zD] <;> omega) | fail) only [zS, argl, insA, Go.Den.wm, wo, wu, looks, wbb, wab, idOf, riA, seval, Go.Den.wh, kK, web, wkb, *, zT]) | (with_reducible (first | apply z1 | apply z2 | apply z3 | apply z4) <;> intro hq <;> (try simp only [zH] at hq) <;> (try (exfalso; omega))) | (with_reducible apply z5; (case hl => (repeat (first | exact .nil | with_reducible apply z6 | with_reducible apply z7))); (case h => kernel_rfl))))
      · clear hno
        (repeat' (first | (simp -implicitDefEqProofs (maxSteps := 2000000) (disch := first | with_reducible assumption | omega | (simp only [zS, zA, seval, wmg, zD] <;> omega) | fail) only [zS, argl, insA, Go.Den.wm, wo, wu, looks, wbb, wab, idOf, riA, seval, Go.Den.wh, kK, web, wkb, *, zT]) | (with_reducible (first | apply z1 | apply z2 | apply z3 | apply z4) <;> intro hq <;> (try simp only [zH] at hq) <;> (try (exfalso; omega))) | (with_reducible apply z5; (case hl => (repeat (first | exact .nil | with_reducible apply z6 | with_reducible apply z7))); (case h => kernel_rfl))))
  · subst hr
    rw [wec] at n2
    simp only [rxK, mkH, List.cons_append, List.nil_append] at e2
    by_cases c8 : c = 8
    · refine ⟨.mk 2 0 0 0 0#256 (.mk 7 0 0 0 0#256 [] :: rs), a2, g2, l2, ?_, by rw [wec, wnb, wec, wnb]; omega, by omega, b2, b3, by omega, by omega⟩
      rw [wzq, rxs_cons, rx_begin, List.length_cons, Nat.add_comm]
      have hsl := wzcc (l := rs)
      have hcl : rs.length * 9 ≤ (rxsC rs).length := by rw [wpt]; exact Nat.le_refl _
      clear n2 b1 b4 b5 ha hno
      subst c8
      refine wmb hc wfd (Nat.le_of_ble_eq_true rfl) (Nat.le_of_ble_eq_true rfl) ?_
      unfold wdd
      cases ere with
      | false =>
        (repeat' (first | (simp -implicitDefEqProofs (maxSteps := 2000000) (disch := first | with_reducible assumption | omega | (simp only [zS, zA, seval, wun, wvh, wdf, whk, wxp, wwh, wxh, wyh, zD] <;> omega) | fail) only [zS, argl, insA, Go.Den.wm, wo, wu, looks, wbb, wab, idOf, riA, seval, Go.Den.wh, kK, web, wkb, wycc, wvh, wdf, whk, wxp, wwh, wpl, wui, wfu, wxh, wyh, *, zT]) | (with_reducible (first | apply z1 | apply z2 | apply z3 | apply z4) <;> intro hq <;> (try simp only [zH] at hq) <;> (try (exfalso; omega))) | (with_reducible apply z5; (case hl => (repeat (first | exact .nil | with_reducible apply z6 | with_reducible apply z7))); (case h => kernel_rfl))))
      | true =>
        (repeat' (first | (simp -implicitDefEqProofs (maxSteps := 2000000) (disch := first | with_reducible assumption | omega | (simp only [zS, zA, seval, wun, wvh, wdf, whk, wxp, wwh, wxh, wyh, zD] <;> omega) | fail) only [zS, argl, insA, Go.Den.wm, wo, wu, looks, wbb, wab, idOf, riA, seval, Go.Den.wh, kK, web, wkb, wycc, wvh, wdf, whk, wxp, wwh, wpl, wui, wfu, wxh, wyh, *, zT]) | (with_reducible (first | apply z1 | apply z2 | apply z3 | apply z4) <;> intro hq <;> (try simp only [zH] at hq) <;> (try (exfalso; omega))) | (with_reducible apply z5; (case hl => (repeat (first | exact .nil | with_reducible apply z6 | with_reducible apply z7))); (case h => kernel_rfl))))
    · by_cases c7 : c = 7
      · refine ⟨.mk 2 0 0 0 0#256 (rs ++ [.mk 8 0 0 0 0#256 []]), a2, g2, l2, ?_, by rw [wec, waab, wec, wnb]; omega, by omega, b2, b3, by omega, by omega⟩
        rw [wzq, wqnb, rx_end, List.length_append, List.length_singleton]
        clear n2 b1 b4 b5 ha hno
        subst c7
        refine wmb hc wfd (Nat.le_of_ble_eq_true rfl) (Nat.le_of_ble_eq_true rfl) ?_
        unfold wdd
        cases ere with
        | false =>
          (repeat' (first | (simp -implicitDefEqProofs (maxSteps := 2000000) (disch := first | with_reducible assumption | omega | (simp only [zS, zA, seval, wun, wvh, wdf, whk, wxp, wwh, wxh, wyh, zD] <;> omega) | fail) only [zS, argl, insA, Go.Den.wm, wo, wu, looks, wbb, wab, idOf, riA, seval, Go.Den.wh, kK, web, wkb, wvh, wdf, whk, wxp, wwh, wpl, wui, wfu, wxh, wyh, *, zT]) | (with_reducible (first | apply z1 | apply z2 | apply z3 | apply z4) <;> intro hq <;> (try simp only [zH] at hq) <;> (try (exfalso; omega))) | (with_reducible apply z5; (case hl => (repeat (first | exact .nil | with_reducible apply z6 | with_reducible apply z7))); (case h => kernel_rfl))))
        | true =>
          (repeat' (first | (simp -implicitDefEqProofs (maxSteps := 2000000) (disch := first | with_reducible assumption | omega | (simp only [zS, zA, seval, wun, wvh, wdf, whk, wxp, wwh, wxh, wyh, zD] <;> omega) | fail) only [zS, argl, insA, Go.Den.wm, wo, wu, looks, wbb, wab, idOf, riA, seval, Go.Den.wh, kK, web, wkb, wvh, wdf, whk, wxp, wwh, wpl, wui, wfu, wxh, wyh, *, zT]) | (with_reducible (first | apply z1 | apply z2 | apply z3 | apply z4) <;> intro hq <;> (try simp only [zH] at hq) <;> (try (exfalso; omega))) | (with_reducible apply z5; (case hl => (repeat (first | exact .nil | with_reducible apply z6 | with_reducible apply z7))); (case h => kernel_rfl))))
      · refine ⟨.mk 2 0 0 0 0#256 rs, a2, g2, l2, ?_, by rw [wec]; omega, by omega, b2, b3, by omega, by omega⟩
        rw [wzq]
        clear n2 b1 b4 b5 ha
        refine wmb hc wfd (Nat.le_of_ble_eq_true rfl) (Nat.le_of_ble_eq_true rfl) ?_
        unfold wdd
        cases ere with
        | false =>
          clear hno
          (repeat' (first | (simp -implicitDefEqProofs (maxSteps := 2000000) (disch := first | with_reducible assumption | omega | (simp only [zS, zA, seval, wun, wvh, wdf, whk, wxp, wwh, wxh, wyh, zD] <;> omega) | fail) only [zS, argl, insA, Go.Den.wm, wo, wu, looks, wbb, wab, idOf, riA, seval, Go.Den.wh, kK, web, wkb, wvh, wdf, whk, wxp, wwh, wpl, wui, wfu, wxh, wyh, *, zT]) | (with_reducible (first | apply z1 | apply z2 | apply z3 | apply z4) <;> intro hq <;> (try simp only [zH] at hq) <;> (try (exfalso; omega))) | (with_reducible apply z5; (case hl => (repeat (first | exact .nil | with_reducible apply z6 | with_reducible apply z7))); (case h => kernel_rfl))))
        | true =>
          by_cases c9 : c = 9
          · by_cases l4 : 4 < l - 1
            · have d3 : ¬ deep < 3 := fun h => hno ⟨rfl, c9, l4, h⟩
              clear hno
              subst c9
              (repeat' (first | (simp -implicitDefEqProofs (maxSteps := 2000000) (disch := first | with_reducible assumption | omega | (simp only [zS, zA, seval, wun, wvh, wdf, whk, wxp, wwh, wxh, wyh, zD] <;> omega) | fail) only [zS, argl, insA, Go.Den.wm, wo, wu, looks, wbb, wab, idOf, riA, seval, Go.Den.wh, kK, web, wkb, wvh, wdf, whk, wxp, wwh, wpl, wui, wfu, wxh, wyh, *, zT]) | (with_reducible (first | apply z1 | apply z2 | apply z3 | apply z4) <;> intro hq <;> (try simp only [zH] at hq) <;> (try (exfalso; omega))) | (with_reducible apply z5; (case hl => (repeat (first | exact .nil | with_reducible apply z6 | with_reducible apply z7))); (case h => kernel_rfl))))
            · clear hno
              subst c9
              (repeat' (first | (simp -implicitDefEqProofs (maxSteps := 2000000) (disch := first | with_reducible assumption | omega | (simp only [zS, zA, seval, wun, wvh, wdf, whk, wxp, wwh, wxh, wyh, zD] <;> omega) | fail) only [zS, argl, insA, Go.Den.wm, wo, wu, looks, wbb, wab, idOf, riA, seval, Go.Den.wh, kK, web, wkb, wvh, wdf, whk, wxp, wwh, wpl, wui, wfu, wxh, wyh, *, zT]) | (with_reducible (first | apply z1 | apply z2 | apply z3 | apply z4) <;> intro hq <;> (try simp only [zH] at hq) <;> (try (exfalso; omega))) | (with_reducible apply z5; (case hl => (repeat (first | exact .nil | with_reducible apply z6 | with_reducible apply z7))); (case h => kernel_rfl))))
          · clear hno
            (repeat' (first | (simp -implicitDefEqProofs (maxSteps := 2000000) (disch := first | with_reducible assumption | omega | (simp only [zS, zA, seval, wun, wvh, wdf, whk, wxp, wwh, wxh, wyh, zD] <;> omega) | fail) only [zS, argl, insA, Go.Den.wm, wo, wu, looks, wbb, wab, idOf, riA, seval, Go.Den.wh, kK, web, wkb, wvh, wdf, whk, wxp, wwh, wpl, wui, wfu, wxh, wyh, *, zT]) | (with_reducible (first | apply z1 | apply z2 | apply z3 | apply z4) <;> intro hq <;> (try simp only [zH] at hq) <;> (try (exfalso; omega))) | (with_reducible apply z5; (case hl => (repeat (first | exact .nil | with_reducible apply z6 | with_reducible apply z7))); (case h => kernel_rfl))))
end
end Go.Proofs.Ytdbhfmdndiphcaa
namespace Go.Proofs.Ytdbhfmdndiphcaa
set_option linter.unusedVariables false
set_option linter.unusedSimpArgs false
open Go.Den
noncomputable section
theorem rxs_two {r s : Rx} : rxsC [r, s] = rxC r ++ rxC s := by rw [rxsC, rxsC, rxsC, List.append_nil]
theorem wbdc {r : Rx} : wm ([.int .i64 0, .int .i64 0, .int .i64 0, .int .i64 0, .int .u64 0, .int .u64 0, .int .u64 0, .int .u64 0, .slice none 0 0, .int .i64 0, .int .i64 0, .int .i64 0, .int .i64 0, .int .u64 0, .int .u64 0, .int .u64 0, .int .u64 0, .slice none 0 0]) 0 (rxC r) = rxC r ++ rxZ := by rw [wfm]; rfl
theorem over_rx9 {r s : Rx} : wm (rxC r ++ rxZ) 9 (rxC s) = rxC r ++ rxC s := by rw [wfm (r := r), wfm (r := s)]; rfl
theorem wcab {r s : Rx} : wtb (rxC r ++ rxC s) = true := by rw [wfm (r := r), wfm (r := s)]; rfl
theorem wcdc {r s : Rx} : slotsOf (rxC r ++ rxC s) 0 18 = rxC r ++ rxC s := by rw [wfm (r := r), wfm (r := s)]; rfl
theorem wilb {t n : Nat} {c : List Value} : rxK t n c = [.int .i64 2, .int .i64 0, .int .i64 0, .int .i64 0, .int .u64 0, .int .u64 0, .int .u64 0, .int .u64 0, FO t n c] := rfl
set_option maxHeartbeats 8000000 in
theorem row_alt (ks ns : List Int) (deep : Int) (hd : 0 ≤ deep) (M : Nat) (a : Nat) (g l f : Int) (hf : IntKind.wrap .i64 ((BitVec.ofInt (IntKind.bits .i64) (wzf ns a) &&& BitVec.ofInt (IntKind.bits .i64) 1).toNat : Int) = f) (hf2 : 0 ≤ f ∧ f ≤ 1)
    (hp : PkOk ks ns true [.int .i64 deep, .int .i64 (1 + f)] M) (hp2 : PkOk ks ns true [.int .i64 deep, .int .i64 1] M) (ha : a + (2 * M + 1) ≤ 100000) (hg : 0 ≤ g) (hg3 : g ≤ 3) (hl : -1000000 + 4 * (M : Int) + 2 ≤ l) (hl2 : l ≤ 1000)
    (c9 : whc (wbk ks a) 0 9 = 9) (l4 : 4 < l - 1) (d3 : deep < 3) :
    ∃ (r : Rx) (a' : Nat) (g' l' : Int), lim Try.prog cfg (.call 57 [.agg ⟨mkB ks ns true⟩, .int .i64 deep]) (HP (mkH a g l)) = some (.val (.agg ⟨rxC r⟩), HP (mkH a' g' l')) ∧ wec r ≤ 2 * M + 1 ∧ a' ≤ a + (2 * M + 1) ∧ 0 ≤ g' ∧ g' ≤ 3 ∧ l - 4 * (M : Int) - 2 ≤ l' ∧ l' ≤ l := by
  have h1 := wox ks ns true a (by omega) g l
  have h3 := wke (wbk ks a) 0 9 (by omega) (by omega) (by omega)
  rw [c9] at h3
  clear c9
  generalize wbk ks a = x at *
  generalize wzf ns a = y at *
  obtain ⟨r, a2, g2, l2, e2, n2, b1, b2, b3, b4, b5⟩ := hp (a + 1) g (l - 1) (by omega) hg hg3 (by omega) (by omega)
  obtain ⟨s, a3, g3, l3, e3, n3, c1, c2, c3, c4, c5⟩ := hp2 a2 g2 l2 (by omega) b2 b3 (by omega) (by omega)
  refine ⟨.mk 3 0 0 0 0#256 [r, s], a3, g3, l3, ?_, by rw [wec, wnb, wnb, wnb]; omega, by omega, c2, c3, by omega, by omega⟩
  rw [wzq, rxs_two]
  clear hp hp2 n2 b1 b4 b5 n3 c1 c4 c5 ha
  refine wmb hc wfd (Nat.le_of_ble_eq_true rfl) (Nat.le_of_ble_eq_true rfl) ?_
  unfold wdd
  rcases e2 with ⟨e2, _⟩ | ⟨rs, rfl, _, _, e2⟩
  · rcases e3 with ⟨e3, _⟩ | ⟨ss, rfl, _, _, e3⟩
    · (repeat' (first | (simp -implicitDefEqProofs (maxSteps := 2000000) (disch := first | with_reducible assumption | omega | (simp only [zS, zA, seval, wmg, wyd, wcab, zD] <;> omega) | fail) only [zS, argl, insA, Go.Den.wm, wo, wu, looks, wbb, wab, idOf, riA, seval, Go.Den.wh, kK, web, wkb, woc, wyd, weg, wnc, wbdc, over_rx9, wcab, wcdc, *, zT]) | (with_reducible (first | apply z1 | apply z2 | apply z3 | apply z4) <;> intro hq <;> (try simp only [zH] at hq) <;> (try (exfalso; omega))) | (with_reducible apply z5; (case hl => (repeat (first | exact .nil | with_reducible apply z6 | with_reducible apply z7))); (case h => kernel_rfl))))
    · rw [wilb] at e3
      rw [wzq]
      simp only [mkH, List.cons_append, List.nil_append] at e3
      rw [wfm (r := r)] at e2 ⊢
      (repeat' (first | (simp -implicitDefEqProofs (maxSteps := 2000000) (disch := first | with_reducible assumption | omega | (simp only [zS, zA, seval, wyd, zD] <;> omega) | fail) only [zS, argl, insA, Go.Den.wm, wo, wu, looks, wbb, wab, idOf, riA, seval, Go.Den.wh, kK, web, wkb, woc, wyd, weg, wnc, *, zT]) | (with_reducible (first | apply z1 | apply z2 | apply z3 | apply z4) <;> intro hq <;> (try simp only [zH] at hq) <;> (try (exfalso; omega))) | (with_reducible apply z5; (case hl => (repeat (first | exact .nil | with_reducible apply z6 | with_reducible apply z7))); (case h => kernel_rfl))))
  · rw [wilb] at e2
    rw [wzq]
    simp only [mkH, List.cons_append, List.nil_append] at e2
    rcases e3 with ⟨e3, _⟩ | ⟨ss, rfl, _, _, e3⟩
    · rw [wfm (r := s)] at e3 ⊢
      (repeat' (first | (simp -implicitDefEqProofs (maxSteps := 2000000) (disch := first | with_reducible assumption | omega | (simp only [zS, zA, seval, wyd, zD] <;> omega) | fail) only [zS, argl, insA, Go.Den.wm, wo, wu, looks, wbb, wab, idOf, riA, seval, Go.Den.wh, kK, web, wkb, woc, wyd, weg, wnc, *, zT]) | (with_reducible (first | apply z1 | apply z2 | apply z3 | apply z4) <;> intro hq <;> (try simp only [zH] at hq) <;> (try (exfalso; omega))) | (with_reducible apply z5; (case hl => (repeat (first | exact .nil | with_reducible apply z6 | with_reducible apply z7))); (case h => kernel_rfl))))
    · rw [wilb] at e3
      rw [wzq]
      simp only [mkH, List.cons_append, List.nil_append] at e3
      (repeat' (first | (simp -implicitDefEqProofs (maxSteps := 2000000) (disch := first | with_reducible assumption | omega | (simp only [zS, zA, seval, wyd, zD] <;> omega) | fail) only [zS, argl, insA, Go.Den.wm, wo, wu, looks, wbb, wab, idOf, riA, seval, Go.Den.wh, kK, web, wkb, woc, wyd, weg, wnc, *, zT]) | (with_reducible (first | apply z1 | apply z2 | apply z3 | apply z4) <;> intro hq <;> (try simp only [zH] at hq) <;> (try (exfalso; omega))) | (with_reducible apply z5; (case hl => (repeat (first | exact .nil | with_reducible apply z6 | with_reducible apply z7))); (case h => kernel_rfl))))
end
end Go.Proofs.Ytdbhfmdndiphcaa
namespace Go.Proofs.Ytdbhfmdndiphcaa
set_option linter.unusedVariables false
set_option linter.unusedSimpArgs false
open Go.Den
noncomputable section
theorem and1 (y : Int) : 0 ≤ IntKind.wrap .i64 ((BitVec.ofInt (IntKind.bits .i64) y &&& BitVec.ofInt (IntKind.bits .i64) 1).toNat : Int) ∧ IntKind.wrap .i64 ((BitVec.ofInt (IntKind.bits .i64) y &&& BitVec.ofInt (IntKind.bits .i64) 1).toNat : Int) ≤ 1 := by
  have h : (BitVec.ofInt (IntKind.bits .i64) y &&& BitVec.ofInt (IntKind.bits .i64) 1).toNat ≤ 1 := by
    rw [BitVec.toNat_and]
    exact Nat.le_trans Nat.and_le_right (by decide)
  rw [wrap_i64 (by omega) (by omega)]
  omega
theorem PkOk.mono {ks ns : List Int} {ere : Bool} {args : List Value} {M N : Nat} (h : PkOk ks ns ere args M) (hMN : M ≤ N) : PkOk ks ns ere args N := by
  intro a g l ha hg hg3 hl hl2
  obtain ⟨r, a', g', l', e, b1, b2, b3, b4, b5, b6⟩ := h a g l (by omega) hg hg3 (by omega) hl2
  exact ⟨r, a', g', l', e, by omega, by omega, b3, b4, by omega, b6⟩
theorem row_step (ks ns : List Int) (ere : Bool) (deep : Int) (hd : 0 ≤ deep) (hd2 : deep ≤ 3) (M : Nat) (hM : M ≤ 6000) (hp : wwcc ks ns ere 95 [.int .i64 deep] M) : MkOk ks ns ere 57 [.int .i64 deep] (6 * M + 3) := by
  have p1 : PkOk ks ns ere [.int .i64 deep, .int .i64 1] (3 * M + 1) := (wwcb ks ns ere deep 1 (by omega) M (by omega) hp 0 rfl).mono (by omega)
  have p2 : PkOk ks ns ere [.int .i64 deep, .int .i64 2] (3 * M + 1) := (wwcb ks ns ere deep 2 (by omega) M (by omega) hp 1 rfl).mono (by omega)
  have p3 : PkOk ks ns ere [.int .i64 deep, .int .i64 3] (3 * M + 1) := (wwcb ks ns ere deep 3 (by omega) M (by omega) hp 2 rfl).mono (by omega)
  intro a g l ha hg hg3 hl hl2
  by_cases hq : ere = true ∧ whc (wbk ks a) 0 9 = 9 ∧ 4 < l - 1 ∧ deep < 3
  · obtain ⟨rfl, c9, l4, d3⟩ := hq
    obtain ⟨f0, f1⟩ := and1 (wzf ns a)
    generalize hf : IntKind.wrap .i64 ((BitVec.ofInt (IntKind.bits .i64) (wzf ns a) &&& BitVec.ofInt (IntKind.bits .i64) 1).toNat : Int) = f at f0 f1
    have hpf : PkOk ks ns true [.int .i64 deep, .int .i64 (1 + f)] (3 * M + 1) := by
      rcases (show f = 0 ∨ f = 1 by omega) with rfl | rfl
      · exact p1
      · exact p2
    obtain ⟨r, a', g', l', e, b1, b2, b3, b4, b5, b6⟩ := row_alt ks ns deep hd (3 * M + 1) a g l f hf ⟨f0, f1⟩ hpf p1 (by omega) hg hg3 (by omega) hl2 c9 l4 d3
    exact ⟨r, a', g', l', e, by omega, by omega, b3, b4, by omega, b6⟩
  · have hw := wxo (wzf ns a)
    have hpw : PkOk ks ns ere [.int .i64 deep, .int .i64 (1 + whc (wzf ns a) 0 2)] (3 * M + 1) := by
      rcases (show whc (wzf ns a) 0 2 = 0 ∨ whc (wzf ns a) 0 2 = 1 ∨ whc (wzf ns a) 0 2 = 2 by omega) with h | h | h <;> rw [h]
      · exact p1
      · exact p2
      · exact p3
    obtain ⟨r, a', g', l', e, b1, b2, b3, b4, b5, b6⟩ := wadc ks ns ere deep hd hd2 (3 * M + 1) a g l hpw (by omega) hg hg3 (by omega) hl2 hq
    exact ⟨r, a', g', l', e, by omega, by omega, b3, b4, by omega, b6⟩
theorem ev_row0 (ks ns : List Int) (ere : Bool) : MkOk ks ns ere 57 [.int .i64 0] 3999 := by
  have r3 := row_step ks ns ere 3 (by omega) (by omega) 2 (by omega) (wvcb ks ns ere 3 (by omega) (by omega) 0 (fun h => by omega))
  have r2 := row_step ks ns ere 2 (by omega) (by omega) 17 (by omega) (wvcb ks ns ere 2 (by omega) (by omega) 15 (fun _ => r3))
  have r1 := row_step ks ns ere 1 (by omega) (by omega) 107 (by omega) (wvcb ks ns ere 1 (by omega) (by omega) 105 (fun _ => r2))
  have r0 := row_step ks ns ere 0 (by omega) (by omega) 647 (by omega) (wvcb ks ns ere 0 (by omega) (by omega) 645 (fun _ => r1))
  intro a g l ha hg hg3 hl hl2
  obtain ⟨r, a', g', l', e, b1, b2, b3, b4, b5, b6⟩ := r0 a g l (by omega) hg hg3 (by omega) hl2
  exact ⟨r, a', g', l', e, by omega, by omega, b3, b4, by omega, b6⟩
theorem ev_Rx (ks ns : List Int) (ere : Bool) : ∃ r : Rx, wec r ≤ 3999 ∧ lim Try.prog cfg (.call 25 [.agg ⟨[FL ks.length (ints ks), FL ns.length (ints ns)]⟩, .bool ere]) (HP []) = some (.val (.agg ⟨rxC r⟩), HP []) := by
  obtain ⟨r, a', g', l', e, b1, b2, b3, b4, b5, b6⟩ := ev_row0 ks ns ere 0 0 14 (by omega) (by omega) (by omega) (by omega) (by omega)
  refine ⟨r, b1, ?_⟩
  clear b1 b2 b3 b4 b5 b6
  refine wmb hc wwo (Nat.le_of_ble_eq_true rfl) (Nat.le_of_ble_eq_true rfl) ?_
  unfold wml
  simp only [mkH, mkB] at e
  rw [show ((0 : Nat) : Int) = 0 from rfl] at e
  (repeat' (first | (simp -implicitDefEqProofs (maxSteps := 2000000) (disch := first | with_reducible assumption | omega | (simp only [zS, zA, seval, wmg, zD] <;> omega) | fail) only [zS, argl, insA, Go.Den.wm, wo, wu, looks, wbb, wab, idOf, riA, seval, Go.Den.wh, kK, *, zT]) | (with_reducible (first | apply z1 | apply z2 | apply z3 | apply z4) <;> intro hq <;> (try simp only [zH] at hq) <;> (try (exfalso; omega)))))
end
end Go.Proofs.Ytdbhfmdndiphcaa
namespace Go.Proofs.Ytdbhfmdndiphcaa
set_option linter.unusedVariables false
set_option linter.unusedSimpArgs false
open Go.Den
noncomputable section
theorem mts_at1 {l : List Mt} {i : Nat} (h : i < l.length) : (mtsC l)[i * 8 + 1]? = some (.int .i64 ((l.getD i Mt.zero).at 1)) := by
  have h1 := wyu (l := l) h
  have h2 : (slotsOf (mtsC l) (i * 8) 8)[1]? = (mtC (l.getD i Mt.zero))[1]? := by rw [h1]
  rw [wanb (by omega)] at h2
  rw [← h2]
  unfold slotsOf
  rw [List.getElem?_take, if_pos (by omega), List.getElem?_drop]
theorem wsgb : (EJ 197 G0).get 6 = JK := rfl
abbrev faR (r : Rx) : List ABlk := [X (rxC r) 47 0 false]
set_option maxHeartbeats 2000000 in
theorem fa_in (r : Rx) (s : List UInt8) (ms : List Mt) (i : Int) (m : Mt) (hsp : SpOk m) : ∀ (k g : Nat), g + k = 4 → 1 ≤ g →
    lim Try.prog cfg (.loop 5 0 (wvc 1) (SE (EJ 197 G0) [(28, .int .i64 i), (27, .int .i64 ms.length), (26, FL ms.length (mtsC ms)), (15, .int .i64 g), (11, .pointer (some ⟨1, 0, none⟩)), (9, FL ms.length (mtsC ms)), (8, str s), (7, .pointer (some ⟨0, 0, none⟩))])) (HP (faR r ++ [X (mtC m) 55 0 true])) = some (.code (.exit 2) (SE (EJ 197 G0) [(28, .int .i64 i), (27, .int .i64 ms.length), (26, FL ms.length (mtsC ms)), (9, FL ms.length (mtsC ms)), (8, str s), (7, .pointer (some ⟨0, 0, none⟩)), (6, JK)]), HP (faR r)) := by
  intro k
  induction k with
  | zero =>
    intro g hg h1
    clear hsp
    simp only [faR, List.cons_append, List.nil_append]
    refine wdb wuf ?_
    unfold wze
    (repeat' (first | (simp -implicitDefEqProofs (maxSteps := 2000000) (disch := first | with_reducible assumption | omega | (simp only [zS, zA, seval, wcb, wjb, wmg, wdg, wcg, zD] <;> omega) | fail) only [zS, argl, insA, Go.Den.wm, wo, wu, looks, wbb, wab, idOf, riA, seval, Go.Den.wh, kK, wtd, web, wkb, wcb, wjb, wsgb, *, zT]) | (with_reducible (first | apply z1 | apply z2 | apply z3 | apply z4) <;> intro hq <;> (try simp only [zH] at hq) <;> (try (exfalso; omega))) | (with_reducible apply z5; (case hl => (repeat (first | exact .nil | with_reducible apply z6 | with_reducible apply z7))); (case h => kernel_rfl))))
  | succ k ih =>
    intro g hg h1
    have h := ih (g + 1) (by omega) (by omega)
    have hs := hsp g (by omega) (by omega)
    clear ih hsp
    simp only [faR, List.cons_append, List.nil_append] at h ⊢
    have e1 : ((g : Int)).toNat * 2 = g * 2 := by omega
    by_cases h0 : 0 ≤ m.at (g * 2)
    · obtain ⟨s1, s2⟩ := hs h0
      refine wdb wuf ?_
      unfold wze
      (repeat' (first | (simp -implicitDefEqProofs (maxSteps := 2000000) (disch := first | with_reducible assumption | omega | (simp only [zS, zA, seval, wcb, wjb, wmg, wdg, wcg, zD] <;> omega) | fail) only [zS, argl, insA, Go.Den.wm, wo, wu, looks, wbb, wab, idOf, riA, seval, Go.Den.wh, kK, wtd, web, wkb, wcb, wjb, wsgb, *, zT]) | (with_reducible (first | apply z1 | apply z2 | apply z3 | apply z4) <;> intro hq <;> (try simp only [zH] at hq) <;> (try (exfalso; omega))) | (with_reducible apply z5; (case hl => (repeat (first | exact .nil | with_reducible apply z6 | with_reducible apply z7))); (case h => kernel_rfl))))
      all_goals exact h
    · clear hs
      refine wdb wuf ?_
      unfold wze
      (repeat' (first | (simp -implicitDefEqProofs (maxSteps := 2000000) (disch := first | with_reducible assumption | omega | (simp only [zS, zA, seval, wcb, wjb, wmg, wdg, wcg, zD] <;> omega) | fail) only [zS, argl, insA, Go.Den.wm, wo, wu, looks, wbb, wab, idOf, riA, seval, Go.Den.wh, kK, wtd, web, wkb, wcb, wjb, wsgb, *, zT]) | (with_reducible (first | apply z1 | apply z2 | apply z3 | apply z4) <;> intro hq <;> (try simp only [zH] at hq) <;> (try (exfalso; omega))) | (with_reducible apply z5; (case hl => (repeat (first | exact .nil | with_reducible apply z6 | with_reducible apply z7))); (case h => kernel_rfl))))
      all_goals exact h
set_option maxHeartbeats 4000000 in
theorem fa_out (r : Rx) (hn : wec r ≤ 1000000) (s : List UInt8) (hs : s.length ≤ 12) (ms : List Mt) (hl : ms.length ≤ 13) (hok : ∀ i, i < ms.length → MtOk r s (if i = 0 then none else some (ms.getD (i - 1) Mt.zero)) (ms.getD i Mt.zero)) : ∀ (k i : Nat), i + k = ms.length →
    lim Try.prog cfg (.loop 5 0 (wvc 0) (SE (EJ 197 G0) [(28, .int .i64 i), (27, .int .i64 ms.length), (26, FL ms.length (mtsC ms)), (9, FL ms.length (mtsC ms)), (8, str s), (7, .pointer (some ⟨0, 0, none⟩))])) (HP (faR r)) = some (.code (.exit 0) (SE (EJ 197 G0) [(9, FL ms.length (mtsC ms)), (8, str s), (7, .pointer (some ⟨0, 0, none⟩)), (6, JK)]), HP (faR r)) := by
  intro k
  induction k with
  | zero =>
    intro i hi
    clear hok
    simp only [faR]
    refine wdb wvf ?_
    unfold waf
    (repeat' (first | (simp -implicitDefEqProofs (maxSteps := 2000000) (disch := first | with_reducible assumption | omega | (simp only [zS, zA, seval, wcb, wjb, wmg, wdg, wcg, zD] <;> omega) | fail) only [zS, argl, insA, Go.Den.wm, wo, wu, looks, wbb, wab, idOf, riA, seval, Go.Den.wh, kK, wsd, web, wkb, wcb, wjb, wsgb, *, zT]) | (with_reducible (first | apply z1 | apply z2 | apply z3 | apply z4) <;> intro hq <;> (try simp only [zH] at hq) <;> (try (exfalso; omega))) | (with_reducible apply z5; (case hl => (repeat (first | exact .nil | with_reducible apply z6 | with_reducible apply z7))); (case h => kernel_rfl))))
  | succ k ih =>
    intro i hi
    have h := ih (i + 1) (by omega)
    have hm := hok i (by omega)
    have hin := fa_in r s ms i (ms.getD i Mt.zero) hm.sp 3 1 rfl (by omega)
    rw [show ((1 : Nat) : Int) = 1 from rfl] at hin
    clear ih hok
    simp only [faR, List.cons_append, List.nil_append] at h hin ⊢
    obtain ⟨lo, le, hi', _, hf, hb⟩ := hm
    cases i with
    | zero =>
      rw [if_pos rfl] at hf
      have hf := hf rfl
      clear hb
      have hF := wus r hn s hs 0
      rw [hf, Option.getD_some, Option.isSome_some] at hF
      have hs0 : slotsOf (mtsC ms) 0 8 = mtC (ms.getD 0 Mt.zero) := by
        have := wyu (l := ms) (i := 0) (by omega)
        rwa [Nat.zero_mul] at this
      rw [show ((0 : Nat) : Int) = 0 from rfl] at hin ⊢
      clear hf
      refine wdb wvf ?_
      unfold waf
      (repeat' (first | (simp -implicitDefEqProofs (maxSteps := 2000000) (disch := first | with_reducible assumption | omega | (simp only [zS, zA, seval, wcb, wjb, wmg, wdg, wcg, zD] <;> omega) | fail) only [zS, argl, insA, Go.Den.wm, wo, wu, looks, wbb, wab, idOf, riA, seval, Go.Den.wh, kK, wsd, wtd, web, wkb, wcb, wjb, wsgb, *, zT]) | (with_reducible (first | apply z1 | apply z2 | apply z3 | apply z4) <;> intro hq <;> (try simp only [zH] at hq) <;> (try (exfalso; omega))) | (with_reducible apply z5; (case hl => (repeat (first | exact .nil | with_reducible apply z6 | with_reducible apply z7))); (case h => kernel_rfl))))
      all_goals exact h
    | succ j =>
      rw [if_neg (by omega), show j + 1 - 1 = j by omega] at hb
      obtain ⟨b1, b2, x, hx, x0, x1, x2⟩ := hb _ rfl
      clear hf hb
      have hF := wus r hn s hs ((ms.getD j Mt.zero).at 1)
      rw [hx, Option.getD_some, Option.isSome_some] at hF
      have ej : (((j + 1 : Nat) : Int) - 1).toNat = j := by omega
      have ep := mts_at1 (l := ms) (i := j) (by omega)
      clear hx
      refine wdb wvf ?_
      unfold waf
      (repeat' (first | (simp -implicitDefEqProofs (maxSteps := 2000000) (disch := first | with_reducible assumption | omega | (simp only [zS, zA, seval, wcb, wjb, wmg, wdg, wcg, zD] <;> omega) | fail) only [zS, argl, insA, Go.Den.wm, wo, wu, looks, wbb, wab, idOf, riA, seval, Go.Den.wh, kK, wsd, wtd, web, wkb, wcb, wjb, wsgb, *, zT]) | (with_reducible (first | apply z1 | apply z2 | apply z3 | apply z4) <;> intro hq <;> (try simp only [zH] at hq) <;> (try (exfalso; omega))) | (with_reducible apply z5; (case hl => (repeat (first | exact .nil | with_reducible apply z6 | with_reducible apply z7))); (case h => kernel_rfl))))
      all_goals exact h
theorem text_len (l : List Int) (n : Nat) : (textF l n).length ≤ n := by unfold textF; rw [List.length_map, List.length_take]; omega
set_option maxHeartbeats 4000000 in
theorem wssb (ks ns text : List Int) (ere : Bool) : lim Try.prog cfg (.call 5 [.agg ⟨[FL ks.length (ints ks), FL ns.length (ints ns)]⟩, FL text.length (ints text), .bool ere]) (HP []) = some (.val (.bool true), HP []) := by
  obtain ⟨r, hn, hr⟩ := ev_Rx ks ns ere
  have h1 := ev_Text text 10 (by omega)
  have hs := text_len text 10
  generalize textF text 10 = s at *
  rw [show ((10 : Nat) : Int) = 10 from rfl] at h1
  have ha := ev_All r (by omega) s (by omega)
  have h0 := wus r (by omega) s (by omega) 0
  have hl := allR_len r s
  have hc := chain_at (r := r) (s := s) _ none (wzz r s)
  have ho := fa_out r (by omega) s (by omega) (allR r s) (by omega) hc _ 0 (by rw [Nat.zero_add])
  rw [show ((0 : Nat) : Int) = 0 from rfl] at ho
  simp only [faR] at ho
  clear hc
  rcases wpsb r s with ⟨f0, f1⟩ | ⟨m, l, f0, f1⟩
  · rw [f1] at ha ho
    rw [f0] at h0
    rw [show (([] : List Mt).length : Int) = 0 from rfl, show ([] : List Mt).length = 0 from rfl, show mtsC [] = [] from rfl] at ho
    rw [show ([] : List Mt).length = 0 from rfl, show mtsC [] = [] from rfl] at ha
    rw [show (none : Option Mt).isSome = false from rfl, show (none : Option Mt).getD wol = wol from rfl] at h0
    have b2 : (false == false) = true := rfl
    have c0 : ((0 : Nat) : Int) = 0 := rfl
    clear hl f0 f1 hn
    refine wmb hc waj (Nat.le_of_ble_eq_true rfl) (Nat.le_of_ble_eq_true rfl) ?_
    unfold wuh
    (repeat' (first | (simp -implicitDefEqProofs (maxSteps := 2000000) (disch := first | with_reducible assumption | omega | (simp only [zS, zA, seval, wcb, wjb, wmg, wdg, wcg, zD] <;> omega) | fail) only [zS, argl, insA, Go.Den.wm, wo, wu, looks, wbb, wab, idOf, riA, seval, Go.Den.wh, kK, wsd, web, wkb, wcf, wcb, wjb, wsgb, *, zT]) | (with_reducible (first | apply z1 | apply z2 | apply z3 | apply z4) <;> intro hq <;> (try simp only [zH] at hq) <;> (try (exfalso; omega))) | (with_reducible apply z5; (case hl => (repeat (first | exact .nil | with_reducible apply z6 | with_reducible apply z7))); (case h => kernel_rfl))))
  · have hs0 : slotsOf (mtsC (allR r s)) 0 8 = mtC m := by
      have := wyu (l := allR r s) (i := 0) (by rw [f1]; simp)
      rw [Nat.zero_mul] at this
      rw [this, f1]; rfl
    have hlen : 0 < (allR r s).length := by rw [f1]; simp
    rw [f0, Option.getD_some, Option.isSome_some] at h0
    clear f0 f1 hn
    generalize allR r s = ms at *
    have hcl : 8 ≤ (mtsC ms).length := by rw [wqkb]; omega
    have b1 : decide (0 < (ms.length : Int)) = true := decide_eq_true (by omega)
    have b2 : (true == true) = true := rfl
    refine wmb hc waj (Nat.le_of_ble_eq_true rfl) (Nat.le_of_ble_eq_true rfl) ?_
    unfold wuh
    (repeat' (first | (simp -implicitDefEqProofs (maxSteps := 2000000) (disch := first | with_reducible assumption | omega | (simp only [zS, zA, seval, wcb, wjb, wmg, wdg, wcg, zD] <;> omega) | fail) only [zS, argl, insA, Go.Den.wm, wo, wu, looks, wbb, wab, idOf, riA, seval, Go.Den.wh, kK, wsd, web, wkb, wcf, wcb, wjb, wsgb, *, zT]) | (with_reducible (first | apply z1 | apply z2 | apply z3 | apply z4) <;> intro hq <;> (try simp only [zH] at hq) <;> (try (exfalso; omega))) | (with_reducible apply z5; (case hl => (repeat (first | exact .nil | with_reducible apply z6 | with_reducible apply z7))); (case h => kernel_rfl))))
end
end Go.Proofs.Ytdbhfmdndiphcaa
namespace Go.Den
noncomputable section
open Go.ChangeShapes Go.WideShapes Go.RowKit
variable {P : Program} {cfg : Cfg} {H : Type} {enc : TypeId × Value → H}
theorem known_ev (wbj : wri P cfg.glob cfg.know) (hm : P.follows .mixedOrders = true) {f : FuncId} {a : List Value} {v : Value} (h : Ev P cfg (.call f a) AH0 (.val v, AH0)) (ha : wtb a = true) (hv : wae v = true) : wwm P cfg.glob f a v := by
  obtain ⟨n, h⟩ := h
  exact wdu wbj hm (h n (Nat.le_refl n)) ha hv
def renW (w : World) : Ren := ⟨fun _ _ => none, fun b i => w.cell? ⟨b, i, none⟩⟩
theorem wddc (wbj : wri P cfg.glob cfg.know) (hm : P.follows .mixedOrders = true) (hg : cfg.glob = fun _ => none) {f : FuncId} {a : List Value} (h : Ev P cfg (.call f a) AH0 (.val (.bool true), AH0)) (ha : wtb a = true) (w : World) (args' : Array Value) (hA : VRL (renW w) a args'.toList) :
    Calls P f args' w fun e w' => e = .returned (.bool true) ∧ w.heap.size ≤ w'.heap.size ∧ (∀ b : Nat, b < w.heap.size → w'.heap[b]? = w.heap[b]?) ∧ w'.os = w.os ∧ w'.output = w.output := by
  refine (known_ev wbj hm h ha rfl (renW w) w args' (fun _ _ _ h => h) (by rw [hg]; exact gok_none _) hA).mono ?_
  rintro e w' ⟨ρ', v', rfl, h1, _, _, _, _, h5, h2, h3, h4⟩
  rw [h1.bool_inv]
  exact ⟨rfl, h5, h2, h3, h4⟩
theorem same_at {W W' : World} (hb : ∀ b : Nat, b < W.heap.size → W'.heap[b]? = W.heap[b]?) {p : MemPlace} (hp : p.block < W.heap.size) : W.sameAt W' p := by
  cases p with
  | cell b o => exact World.cell?_of_block (w := W) (hb b hp)
  | map b => exact hb b hp
theorem wxcb (hl : laidOutB P = true) {W W' : World} (hb : ∀ b : Nat, b < W.heap.size → W'.heap[b]? = W.heap[b]?) {sp : Nat → Bool} : ∀ (ts : List TypeId) (vs : List Value) (ds : List (DataW H)) (ps : List MemPlace), (ts.all fun t => P.readableRec t && decide (t < P.types.size)) = true →
    DataW.TrodAll enc P W 0 (fun _ => true) true ts vs ds ps → (∀ p ∈ ps, p.block < W.heap.size) → (∀ p ∈ ps, sp p.block = true) → DataW.TrodAll enc P W' 0 sp true ts vs ds ps := by
  intro ts
  induction ts with
  | nil =>
    intro vs ds ps _ h _ _
    obtain ⟨rfl, rfl, rfl⟩ := trodAll_nil h
    exact trodAll_mk0
  | cons t ts ih =>
    intro vs ds ps ht h hlt hs
    obtain ⟨v, vs', d, ds', p, q, rfl, rfl, rfl, h0, h1⟩ := trodAll_cons h
    simp only [List.all_cons, Bool.and_eq_true, decide_eq_true_eq] at ht
    exact trodAll_cons_mk (WideElems.Trod_stays hl ht.1.1 ht.1.2 h0 (fun x hx => same_at hb (hlt x (List.mem_append_left _ hx))) (fun x hx => hs x (List.mem_append_left _ hx)))
      (ih vs' ds' q (by simpa using ht.2) h1 (fun x hx => hlt x (List.mem_append_right _ hx)) (fun x hx => hs x (List.mem_append_right _ hx)))
theorem law_post (hl : laidOutB P = true) {f : Func} {s : ChangeSpec} {apart fresh handsOn : Bool} {W W' : World} {args : Array Value} {ds gs : List (DataW H)} {before : List MemPlace}
    (hW : DataW.Whole enc P f.params.toList s.vars apart W args.toList ds gs before) (hvars : s.vars = []) (hbool : ∃ t, f.resultTypes = #[t] ∧ P.underlying t = some .bool)
    (hts : (f.params.toList.all fun t => P.readableRec t && decide (t < P.types.size)) = true)
    (hfn : s.fn H (ds ++ gs) = { results := [.lit (.bool true)], args := ds })
    (hs : ∀ b : Nat, b < W.heap.size → W'.heap[b]? = W.heap[b]?) (ho : W'.os = W.os) (hp : W'.output = W.output) : s.post enc P f apart fresh handsOn false W args (.bool true) W' := by
  have hW' := hW
  obtain ⟨p, q, hA, hV, rfl, hfz, hnd⟩ := hW
  rw [hvars] at hV
  obtain ⟨rfl, rfl⟩ := trodVars_none hV
  obtain ⟨t, ht, hu⟩ := hbool
  refine whvb (pa := p) (pv := []) hW' (fun b sp hd => ?_) (fun sp hsp => ?_) (fun sp _ => ?_) rfl (kept_of hs ho hp)
  · rw [ht, hfn]
    exact trodAll_cons_mk (shut_bool hu _) trodAll_mk0
  · rw [hfn]
    exact wxcb hl hs _ _ _ _ hts hA (fun x hx => hW'.lt x (List.mem_append_left _ hx)) (fun x hx => hsp x (List.mem_append_left _ hx))
  · rw [hfn, hvars]
    exact rfl
end
end Go.Den
namespace Go.Den
noncomputable section
open Go.ChangeShapes Go.WideShapes Go.RowKit
variable {P : Program} {H : Type} {enc : TypeId × Value → H}
theorem wedc {W : World} {t e : TypeId} {k : IntKind} (ht : P.underlying t = some (.slice e)) (he : P.underlying e = some (.int k)) (hc : P.cellsOf e = 1) {r : Reach} {b0 base fuel : Nat} {sp : Nat → Bool} {held : Bool} {v : Value} {x : DataW H × List MemPlace}
    (hval : Cell.okWide P W r b0 t v) (hf : DataW.trod enc P W base sp held fuel t [v] = some x) : ∃ l : List Int, VR (renW W) (FL l.length (l.map (Value.int k))) v := by
  rcases open_ints ht he hc hf with ⟨hcs, _⟩ | ⟨a, len, cap, zs, hcs, _, hl, hm, hz, _, hcell, _⟩
  · cases hcs
    exact ⟨[], .listNo⟩
  · cases hcs
    have hsp : a.spot = none := by
      simp only [Cell.okWide, ht, Cell.ok] at hval
      exact hval.2.2.2.1
    obtain ⟨blk, off, spot⟩ := a
    subst hsp
    have hlz : len ≤ zs.length := by rw [hz]; split <;> omega
    have hlen : (zs.take len).length = len := by rw [List.length_take]; omega
    refine ⟨zs.take len, ?_⟩
    rw [hlen]
    refine VR.list (a' := ⟨blk, off, none⟩) hl (fun i => .int k (zs.getD i 0)) (fun i hi => ?_) (fun i v hv => ?_)
    · rw [List.length_map, hlen] at hi
      have := hcell i (by omega)
      rw [show (⟨blk, off, none⟩ : Addr).add i = ⟨blk, off + i, none⟩ by unfold Addr.add; split <;> simp_all] at this
      exact this
    · rw [List.getElem?_map] at hv
      have hi : i < len := by
        have := (List.getElem?_eq_some_iff.1 (show ((zs.take len).map (Value.int k))[i]? = some v by rw [List.getElem?_map]; exact hv)).1
        rw [List.length_map, hlen] at this; exact this
      rw [List.getElem?_take, if_pos hi, List.getElem?_eq_getElem (by omega)] at hv
      cases hv
      rw [List.getD_eq_getElem?_getD, List.getElem?_eq_getElem (by omega)]
      exact .flat rfl
theorem wfdc {W : World} {t e : TypeId} {k : IntKind} (ht : P.underlying t = some (.slice e)) (he : P.underlying e = some (.int k)) (hc : P.cellsOf e = 1) {r : Reach} {b0 base : Nat} {sp : Nat → Bool} {held : Bool} {v : Value} {d : DataW H} {ps : List MemPlace}
    (hval : Value.okWide P W r b0 t v) (hd : DataW.Trod enc P W base sp held t v d ps) : ∃ l : List Int, VR (renW W) (FL l.length (l.map (Value.int k))) v := by
  obtain ⟨a, len, cap, rfl⟩ := okWide_slice ht hval
  obtain ⟨fuel, hf⟩ := hd
  simp only [Value.okWide, ht] at hval
  exact wedc ht he hc hval hf
theorem open_two {W : World} {t e : TypeId} {f0 f1 : Field} {k : IntKind} (ht : P.underlying t = some (.struct #[f0, f1])) (o0 : f0.offset = 0) (o1 : f1.offset = 1) (hsz : P.cellsOf t = 2) (c0 : P.cellsOf f0.type = 1) (c1 : P.cellsOf f1.type = 1) (u0 : P.underlying f0.type = some (.slice e)) (u1 : P.underlying f1.type = some (.slice e)) (he : P.underlying e = some (.int k)) (hc : P.cellsOf e = 1) (hct : P.cellTypes P.depth t = some [f0.type, f1.type])
    {r : Reach} {b0 base : Nat} {sp : Nat → Bool} {held : Bool} {v : Value} {d : DataW H} {ps : List MemPlace}
    (hval : Value.okWide P W r b0 t v) (hd : DataW.Trod enc P W base sp held t v d ps) : ∃ l1 l2 : List Int, VR (renW W) (.agg ⟨[FL l1.length (l1.map (Value.int k)), FL l2.length (l2.map (Value.int k))]⟩) v := by
  simp only [Value.okWide, ht] at hval
  obtain ⟨⟨cs⟩, rfl, hsize, ts, h1, _, hcell⟩ := hval
  rw [hct] at h1
  cases h1
  rw [hsz] at hsize
  match cs, hsize with
  | [a, b], _ =>
    obtain ⟨fuel, hf⟩ := hd
    obtain ⟨y0, y1, n, _, hl, g0, g1⟩ := trod_struct2 ht hf
    obtain ⟨ua, ea, ka⟩ := hcell 0 a rfl
    obtain ⟨ub, eb, kb⟩ := hcell 1 b rfl
    cases ea
    cases eb
    rw [o0, c0] at g0
    rw [o1, c1] at g1
    obtain ⟨l1, v1⟩ := wedc u0 he hc ka (show DataW.trod enc P W base sp held n f0.type [a] = some y0 from g0)
    obtain ⟨l2, v2⟩ := wedc u1 he hc kb (show DataW.trod enc P W base sp held n f1.type [b] = some y1 from g1)
    exact ⟨l1, l2, VR.agg_mk (.cons v1 (.cons v2 (.nil _)))⟩
end
end Go.Den
