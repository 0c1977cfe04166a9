/-
  PARTS OF A PROOF, joined by a program (7 of 7): a proved reckoner of the model, and what the functions come to.
-/
import Derived.Test.YtjihbfdbgamcdaaQBsetTells6
set_option linter.unusedVariables false
set_option linter.unusedSimpArgs false
namespace Go.Proofs.Ytjihbfdbgamcdaa
set_option linter.unusedVariables false
set_option linter.unusedSimpArgs false
open Go.Den
noncomputable section
theorem u8T : tyU Try.prog 5 = some (.int .u8) := by kernel_rfl
theorem wpob : (EJ 204 G0).get 10 = JK := rfl
theorem neqZ (a : BitVec 256) : eqcV true [.int .u64, .int .u64, .int .u64, .int .u64] (sV a) (.agg ⟨[.int .u64 0, .int .u64 0, .int .u64 0, .int .u64 0]⟩) = val (.bool (decide (a ≠ 0#256))) := neq_set a 0#256
theorem eqS (a b : BitVec 256) : eqcV false [.int .u64, .int .u64, .int .u64, .int .u64] (sV a) (sV b) = val (.bool (decide (a = b))) := eqc_set a b
theorem wucb (s : List UInt8) : lim Try.prog cfg (.call 44 [str s]) (HP []) = some (.val (.tuple ⟨[sV (gath (rclF s) 256), .bool (decide (gath (rclF s) 256 ≠ 0#256))]⟩), HP []) := by
 have h := wwgb s 0#256 (ev_rcl s) 256 0 rfl
 rw [show ((0 : Nat) : Int) = 0 from rfl, show gath (rclF s) 0 = 0#256 from rfl] at h
 unfold bS at h
 rw [show setC 0#256 = [.int .u64 0, .int .u64 0, .int .u64 0, .int .u64 0] from rfl] at h
 generalize gath (rclF s) 256 = R at *
 refine wfb hc wkm (Nat.le_of_ble_eq_true rfl) (Nat.le_of_ble_eq_true rfl) ?_
 unfold wij
 (repeat' (first | (simp -implicitDefEqProofs (maxSteps := 2000000) (disch := first | with_reducible assumption | omega | (simp only [zS, zA, seval, wac, wh, zD] <;> omega) | fail) only [zS, argl, insA, Go.Den.wm, ww, wbb, looks, wxb, wnb, idOf, riA, seval, Go.Den.wu, kK, wke, wh, neqZ, *, zT]) | (with_reducible (first | apply z1 | apply z2 | apply z3 | apply z4) <;> intro hq <;> (try simp only [zH] at hq) <;> (try (exfalso; omega))) | (with_reducible apply z5; (case hl => (repeat (first | exact .nil | with_reducible apply z6 | with_reducible apply z7))); (case h => kernel_rfl))))
 all_goals rfl
theorem wmu : lim Try.prog cfg (.call 52 []) (HP []) = some (.val (.bool true), HP []) := by
 have h1 := wgz [120, 100, 105, 103, 105, 116]
 rw [show whr [120, 100, 105, 103, 105, 116] = (joinL [rng 48 10, rng 97 6, rng 65 6], true) from rfl] at h1
 have h2 := wdc 97 99 3 (by omega) (by omega) rfl
 rw [show ((97 : Nat) : Int) = 97 from rfl, show ((99 : Nat) : Int) = 99 from rfl] at h2
 have h3 := wug [122] (by simp) (by simp)
 rw [show ([122] : List Nat).length = 1 from rfl, show byC [122] = [.int .u8 122] from rfl] at h3
 have h4 := wnc [rng 97 3, ofL [122]] (by simp)
 rw [wfc, show ([rng 97 3, ofL [122]] : List (BitVec 256)).length = 2 from rfl] at h4
 have c1 := wvp (rng 97 3 ||| ofL [122])
 have c2 := wvp (joinL [rng 48 10, rng 97 6, rng 65 6])
 have c3 := wvp (~~~0#256)
 have n1 := wmcb 0#256
 rw [show cnt (rng 97 3 ||| ofL [122]) = 4 by kernel_rfl, show ((4 : Nat) : Int) = 4 from rfl] at c1
 rw [show cnt (joinL [rng 48 10, rng 97 6, rng 65 6]) = 22 by kernel_rfl, show ((22 : Nat) : Int) = 22 from rfl] at c2
 rw [show cnt (~~~0#256) = 256 by kernel_rfl, show ((256 : Nat) : Int) = 256 from rfl] at c3
 unfold sV at n1
 rw [show setC 0#256 = [.int .u64 0, .int .u64 0, .int .u64 0, .int .u64 0] from rfl] at n1
 generalize rng 97 3 ||| ofL [122] = q1 at *
 generalize rng 97 3 = q2 at *
 generalize ofL [122] = q3 at *
 generalize joinL [rng 48 10, rng 97 6, rng 65 6] = q4 at *
 generalize ~~~0#256 = q5 at *
 refine wfb hc wek (Nat.le_of_ble_eq_true rfl) (Nat.le_of_ble_eq_true rfl) ?_
 unfold wnh
 (repeat' (first | (simp -implicitDefEqProofs (maxSteps := 2000000) (disch := first | with_reducible assumption | omega | (simp only [zS, zA, seval, wac, wcd, wh, zD, s2l, s2n, s2s, s3l, s3n, s3s] <;> omega) | fail) only [zS, argl, insA, Go.Den.wm, ww, wbb, looks, wxb, wnb, idOf, riA, seval, kK, wsc, wwe, wif, wh, wdh, wrj, whv, wiv, wjv, wkv, *, zT, s2l, s2n, s2s, s3l, s3n, s3s]) | (with_reducible (first | apply z1 | apply z2 | apply z3 | apply z4) <;> intro hq <;> (try simp only [zH] at hq) <;> (try (exfalso; omega)))))
 all_goals rfl
abbrev wmn (M : List Nat) : Value := FL (M.length + 80) (rmC M 7 80 0)
set_option maxHeartbeats 4000000 in
theorem bt0_N (s of r c d : BitVec 256) (zb : Nat) (isv okv : Bool) (fr to : Nat) : ∀ (k i : Nat) (K : List Int), i + k = 0 →
  lim Try.prog cfg (.loop 9 0 (wtb 0) (SE (EJ 204 G0) [(58, .int .i64 i), (57, .int .i64 0), (56, (.slice (some ⟨zb, 0, none⟩) 0 1)), (19, .map (some 5)), (18, .bool isv), (17, pS 4), (16, .bool okv), (15, pS 3), (14, pS 2), (13, pS 1), (12, wmn []), (11, (.slice (some ⟨zb, 0, none⟩) 0 1)), (5, pS 0), (3, .int .u8 to), (2, .int .u8 fr)])) (HP [bS s, bS of, bS r, bS c, bS d, .map (setI .u8 K)]) = some (.code (.exit 0) (SE (EJ 204 G0) [(19, .map (some 5)), (18, .bool isv), (17, pS 4), (16, .bool okv), (15, pS 3), (14, pS 2), (13, pS 1), (12, wmn []), (11, (.slice (some ⟨zb, 0, none⟩) 0 1)), (5, pS 0), (3, .int .u8 to), (2, .int .u8 fr)]), HP [bS s, bS of, bS r, bS c, bS d, .map (setI .u8 (inL [] K))]) := by
 intro k
 induction k with
 | zero =>
  intro i K hi
  obtain rfl : i = 0 := by omega
  rw [inL]
  refine wbc wud ?_
  unfold wed
  (repeat' (first | (simp -implicitDefEqProofs (maxSteps := 2000000) (disch := first | with_reducible assumption | omega | (simp only [zS, zA, seval, wac, wsg, wfn, wbf, wh, wkb, wcl, zD] <;> omega) | fail) only [zS, argl, insA, Go.Den.wm, ww, wbb, looks, wxb, wnb, idOf, riA, seval, Go.Den.wu, kK, wrb, wsb, wkb, wju u8T, wzgb u8T, wbf, wh, wzh, wdh, wrj, whv, wiv, wjv, wkv, *, zT]) | (with_reducible (first | apply z1 | apply z2 | apply z3 | apply z4) <;> intro hq <;> (try simp only [zH] at hq) <;> (try (exfalso; omega)))))
  all_goals rfl
 | succ k ih =>
  intro i K hi
  omega
set_option maxHeartbeats 8000000 in
set_option maxRecDepth 100000 in
theorem bt1_N (s of r c d : BitVec 256) (zb : Nat) (isv okv : Bool) (fr to : Nat) (K : List Int) (hof : ∀ i, i < 256 → of.getLsbD i = false) (hK : ∀ i : Nat, decide ((i : Int) ∈ K) = false) (hr : ∀ i, i < 256 → r.getLsbD i = decide (fr ≤ i ∧ i ≤ to)) : ∀ (k i : Nat), i + k = 256 →
  lim Try.prog cfg (.loop 9 0 (wtb 1) (SE (EJ 204 G0) [(67, .int .i64 i), (23, FL (mem s 256).length (byC (mem s 256))), (22, .int .i64 (mem s i).length), (19, .map (some 5)), (18, .bool isv), (17, pS 4), (16, .bool okv), (15, pS 3), (14, pS 2), (13, pS 1), (12, wmn []), (11, (.slice (some ⟨zb, 0, none⟩) 0 1)), (5, pS 0), (3, .int .u8 to), (2, .int .u8 fr)])) (HP [bS s, bS of, bS r, bS c, bS d, .map (setI .u8 K)]) = some (.code (.exit 2) (SE (EJ 204 G0) [(23, FL (mem s 256).length (byC (mem s 256))), (22, .int .i64 (mem s 256).length), (18, .bool isv), (17, pS 2), (16, .bool okv), (15, pS 1), (12, wmn []), (11, (.slice (some ⟨zb, 0, none⟩) 0 1)), (10, JK), (5, pS 0)]), HP [bS s, bS c, bS d]) := by
 intro k
 induction k with
 | zero =>
  intro i hi
  obtain rfl : i = 256 := by omega
  clear hof hK hr
  rw [show ((256 : Nat) : Int) = 256 from rfl]
  generalize mem s 256 = R at *
  refine wbc wtc ?_
  unfold wrc
  (repeat' (first | (simp -implicitDefEqProofs (maxSteps := 2000000) (disch := first | with_reducible assumption | omega | (simp only [zS, zA, seval, wac, wsg, wfn, wbf, wh, wkb, wcl, wcd, wld, whf, zD, s2l, s2n, s2s, s3l, s3n, s3s] <;> omega) | fail) only [zS, argl, insA, Go.Den.wm, ww, wbb, looks, wxb, wnb, idOf, riA, seval, kK, wrb, wsb, wkb, wju u8T, wzgb u8T, wbf, wsc, wh, wzh, wld, whf, wpob, wdh, wrj, whv, wiv, wjv, wkv, *, zT, s2l, s2n, s2s, s3l, s3n, s3s]) | (with_reducible (first | apply z1 | apply z2 | apply z3 | apply z4) <;> intro hq <;> (try simp only [zH] at hq) <;> (try (exfalso; omega))) | (with_reducible apply z5; (case hl => (repeat (first | exact .nil | with_reducible apply z6 | with_reducible apply z7))); (case h => kernel_rfl))))
  all_goals rfl
 | succ k ih =>
  intro i hi
  have hi2 : i < 256 := by omega
  have h := ih (i + 1) (by omega)
  have a1 := whl s i hi2
  have a2 := wrxb s i hi2
  have a3 := whl of i hi2
  have a4 := whl r i hi2
  have a5 := wmcb s
  have a6 := whl (~~~s) i hi2
  have a7 := wnc [s, of] (by simp)
  have a8 := whl (s ||| of) i hi2
  rw [wfc, show ([s, of] : List (BitVec 256)).length = 2 from rfl] at a7
  rw [BitVec.getLsbD_not, decide_eq_true hi2, Bool.true_and] at a6
  rw [BitVec.getLsbD_or, hof i hi2] at a8
  rw [hof i hi2] at a3
  rw [hr i hi2] at a4
  have a9 := hK i
  have m1 := @wcjb s i hi2
  have m2 := @wdjb s i
  have m3 := mem_le (s := s) (i := 256) (j := 256) (Nat.le_refl _)
  have m4 := weo s 256
  have hbl := wkb (l := mem s 256)
  have hqq : (decide ((fr : Int) ≤ (i : Int)) = true ∧ decide ((i : Int) ≤ (to : Int)) = true ∧ decide (fr ≤ i ∧ i ≤ to) = true) ∨ (decide ((fr : Int) ≤ (i : Int)) = true ∧ decide ((i : Int) ≤ (to : Int)) = false ∧ decide (fr ≤ i ∧ i ≤ to) = false) ∨ (decide ((fr : Int) ≤ (i : Int)) = false ∧ decide (fr ≤ i ∧ i ≤ to) = false) := by
   by_cases q1 : fr ≤ i
   ·by_cases q2 : i ≤ to
    ·exact .inl ⟨decide_eq_true (by omega), decide_eq_true (by omega), decide_eq_true ⟨q1, q2⟩⟩
    ·exact .inr (.inl ⟨decide_eq_true (by omega), decide_eq_false (by omega), decide_eq_false fun h => q2 h.2⟩)
   ·exact .inr (.inr ⟨decide_eq_false (by omega), decide_eq_false fun h => q1 h.1⟩)
  clear ih hof hK hr
  generalize ~~~s = sn at *
  generalize s ||| of = so at *
  generalize mem s (i + 1) = R1 at *
  generalize mem s i = R0 at *
  generalize mem s 256 = R at *
  cases hb1 : s.getLsbD i
  case' true =>
   obtain ⟨m5, m6, m7⟩ := m1 hb1
   rw [m7] at h
   clear m2
  case' false =>
   rw [m2 hb1] at h
   clear m1
  all_goals
   rw [hb1] at a1 a2 a6 a8
   clear hb1
   rcases hqq with ⟨q1, q2, q3⟩ | ⟨q1, q2, q3⟩ | ⟨q1, q3⟩
   all_goals
     rw [q3] at a4
     clear q3
     refine wbc wtc ?_
     unfold wrc
     (repeat' (first | (simp -implicitDefEqProofs (maxSteps := 2000000) (disch := first | with_reducible assumption | omega | (simp only [zS, zA, seval, wac, wsg, wfn, wbf, wh, wkb, wcl, wcd, wld, whf, zD, s2l, s2n, s2s, s3l, s3n, s3s] <;> omega) | fail) only [zS, argl, insA, Go.Den.wm, ww, wbb, looks, wxb, wnb, idOf, riA, seval, kK, wrb, wsb, wkb, wju u8T, wzgb u8T, wbf, wsc, wh, wzh, wld, whf, wpob, wdh, wrj, whv, wiv, wjv, wkv, *, zT, s2l, s2n, s2s, s3l, s3n, s3s]) | (with_reducible (first | apply z1 | apply z2 | apply z3 | apply z4) <;> intro hq <;> (try simp only [zH] at hq) <;> (try (exfalso; omega))) | (with_reducible apply z5; (case hl => (repeat (first | exact .nil | with_reducible apply z6 | with_reducible apply z7))); (case h => kernel_rfl))))
     all_goals first | exact h | rfl | trace_state
end
end Go.Proofs.Ytjihbfdbgamcdaa
namespace Go.Proofs.Ytjihbfdbgamcdaa
set_option linter.unusedVariables false
set_option linter.unusedSimpArgs false
open Go.Den
noncomputable section
set_option maxHeartbeats 4000000 in
theorem bt0_C (s of r c d : BitVec 256) (M : List Nat) (hl : M.length ≤ 20) (hM : 0 < M.length) (isv okv : Bool) (fr to : Nat) : ∀ (k i : Nat) (K : List Int), i + k = M.length →
  lim Try.prog cfg (.loop 9 0 (wtb 0) (SE (EJ 204 G0) [(58, .int .i64 i), (57, .int .i64 M.length), (56, (FO 1 M.length (byC M))), (19, .map (some 6)), (18, .bool isv), (17, pS 5), (16, .bool okv), (15, pS 4), (14, pS 3), (13, pS 2), (12, wmn M), (11, (FO 1 M.length (byC M))), (5, pS 0), (3, .int .u8 to), (2, .int .u8 fr)])) (HP [bS s, .tok M.length 5 1, bS of, bS r, bS c, bS d, .map (setI .u8 K)]) = some (.code (.exit 0) (SE (EJ 204 G0) [(19, .map (some 6)), (18, .bool isv), (17, pS 5), (16, .bool okv), (15, pS 4), (14, pS 3), (13, pS 2), (12, wmn M), (11, (FO 1 M.length (byC M))), (5, pS 0), (3, .int .u8 to), (2, .int .u8 fr)]), HP [bS s, .tok M.length 5 1, bS of, bS r, bS c, bS d, .map (setI .u8 (inL (M.drop i) K))]) := by
 intro k
 induction k with
 | zero =>
  intro i K hi
  rw [List.drop_of_length_le (by omega), inL]
  refine wbc wud ?_
  unfold wed
  (repeat' (first | (simp -implicitDefEqProofs (maxSteps := 2000000) (disch := first | with_reducible assumption | omega | (simp only [zS, zA, seval, wac, wsg, wfn, wbf, wh, wkb, wcl, zD] <;> omega) | fail) only [zS, argl, insA, Go.Den.wm, ww, wbb, looks, wxb, wnb, idOf, riA, seval, Go.Den.wu, kK, wrb, wsb, wkb, wju u8T, wzgb u8T, wbf, wh, wzh, wdh, wrj, whv, wiv, wjv, wkv, *, zT]) | (with_reducible (first | apply z1 | apply z2 | apply z3 | apply z4) <;> intro hq <;> (try simp only [zH] at hq) <;> (try (exfalso; omega)))))
  all_goals rfl
 | succ k ih =>
  intro i K hi
  have hlt : i < M.length := by omega
  have h := ih (i + 1) (putI ((M.getD i 0 : Nat) : Int) K) (by omega)
  have hg := byC_at hlt
  have hd : M.drop i = M.getD i 0 :: M.drop (i + 1) := by
   rw [List.drop_eq_getElem_cons hlt, List.getD_eq_getElem?_getD, List.getElem?_eq_getElem hlt]; rfl
  rw [hd, inL]
  clear ih hd
  generalize inL (M.drop (i + 1)) (putI ((M.getD i 0 : Nat) : Int) K) = K2 at *
  generalize M.getD i 0 = x at *
  refine wbc wud ?_
  unfold wed
  (repeat' (first | (simp -implicitDefEqProofs (maxSteps := 2000000) (disch := first | with_reducible assumption | omega | (simp only [zS, zA, seval, wac, wsg, wfn, wbf, wh, wkb, wcl, zD] <;> omega) | fail) only [zS, argl, insA, Go.Den.wm, ww, wbb, looks, wxb, wnb, idOf, riA, seval, Go.Den.wu, kK, wrb, wsb, wkb, wju u8T, wzgb u8T, wbf, wh, wzh, wdh, wrj, whv, wiv, wjv, wkv, *, zT]) | (with_reducible (first | apply z1 | apply z2 | apply z3 | apply z4) <;> intro hq <;> (try simp only [zH] at hq) <;> (try (exfalso; omega)))))
  all_goals first | exact h | rfl | trace_state
set_option maxHeartbeats 8000000 in
set_option maxRecDepth 100000 in
theorem bt1_C (s of r c d : BitVec 256) (M : List Nat) (hl : M.length ≤ 20) (hM : 0 < M.length) (isv okv : Bool) (fr to : Nat) (K : List Int) (hof : ∀ i, i < 256 → of.getLsbD i = decide (i ∈ M)) (hK : ∀ i : Nat, decide ((i : Int) ∈ K) = decide (i ∈ M)) (hr : ∀ i, i < 256 → r.getLsbD i = decide (fr ≤ i ∧ i ≤ to)) : ∀ (k i : Nat), i + k = 256 →
  lim Try.prog cfg (.loop 9 0 (wtb 1) (SE (EJ 204 G0) [(67, .int .i64 i), (23, FL (mem s 256).length (byC (mem s 256))), (22, .int .i64 (mem s i).length), (19, .map (some 6)), (18, .bool isv), (17, pS 5), (16, .bool okv), (15, pS 4), (14, pS 3), (13, pS 2), (12, wmn M), (11, (FO 1 M.length (byC M))), (5, pS 0), (3, .int .u8 to), (2, .int .u8 fr)])) (HP [bS s, .tok M.length 5 1, bS of, bS r, bS c, bS d, .map (setI .u8 K)]) = some (.code (.exit 2) (SE (EJ 204 G0) [(23, FL (mem s 256).length (byC (mem s 256))), (22, .int .i64 (mem s 256).length), (18, .bool isv), (17, pS 3), (16, .bool okv), (15, pS 2), (12, wmn M), (11, (FO 1 M.length (byC M))), (10, JK), (5, pS 0)]), HP [bS s, .tok M.length 5 1, bS c, bS d]) := by
 intro k
 induction k with
 | zero =>
  intro i hi
  obtain rfl : i = 256 := by omega
  clear hof hK hr
  rw [show ((256 : Nat) : Int) = 256 from rfl]
  generalize mem s 256 = R at *
  refine wbc wtc ?_
  unfold wrc
  (repeat' (first | (simp -implicitDefEqProofs (maxSteps := 2000000) (disch := first | with_reducible assumption | omega | (simp only [zS, zA, seval, wac, wsg, wfn, wbf, wh, wkb, wcl, wcd, wld, whf, zD, s2l, s2n, s2s, s3l, s3n, s3s] <;> omega) | fail) only [zS, argl, insA, Go.Den.wm, ww, wbb, looks, wxb, wnb, idOf, riA, seval, kK, wrb, wsb, wkb, wju u8T, wzgb u8T, wbf, wsc, wh, wzh, wld, whf, wpob, wdh, wrj, whv, wiv, wjv, wkv, *, zT, s2l, s2n, s2s, s3l, s3n, s3s]) | (with_reducible (first | apply z1 | apply z2 | apply z3 | apply z4) <;> intro hq <;> (try simp only [zH] at hq) <;> (try (exfalso; omega))) | (with_reducible apply z5; (case hl => (repeat (first | exact .nil | with_reducible apply z6 | with_reducible apply z7))); (case h => kernel_rfl))))
  all_goals rfl
 | succ k ih =>
  intro i hi
  have hi2 : i < 256 := by omega
  have h := ih (i + 1) (by omega)
  have a1 := whl s i hi2
  have a2 := wrxb s i hi2
  have a3 := whl of i hi2
  have a4 := whl r i hi2
  have a5 := wmcb s
  have a6 := whl (~~~s) i hi2
  have a7 := wnc [s, of] (by simp)
  have a8 := whl (s ||| of) i hi2
  rw [wfc, show ([s, of] : List (BitVec 256)).length = 2 from rfl] at a7
  rw [BitVec.getLsbD_not, decide_eq_true hi2, Bool.true_and] at a6
  rw [BitVec.getLsbD_or, hof i hi2] at a8
  rw [hof i hi2] at a3
  rw [hr i hi2] at a4
  have a9 := hK i
  have m1 := @wcjb s i hi2
  have m2 := @wdjb s i
  have m3 := mem_le (s := s) (i := 256) (j := 256) (Nat.le_refl _)
  have m4 := weo s 256
  have hbl := wkb (l := mem s 256)
  have hqq : (decide ((fr : Int) ≤ (i : Int)) = true ∧ decide ((i : Int) ≤ (to : Int)) = true ∧ decide (fr ≤ i ∧ i ≤ to) = true) ∨ (decide ((fr : Int) ≤ (i : Int)) = true ∧ decide ((i : Int) ≤ (to : Int)) = false ∧ decide (fr ≤ i ∧ i ≤ to) = false) ∨ (decide ((fr : Int) ≤ (i : Int)) = false ∧ decide (fr ≤ i ∧ i ≤ to) = false) := by
   by_cases q1 : fr ≤ i
   ·by_cases q2 : i ≤ to
    ·exact .inl ⟨decide_eq_true (by omega), decide_eq_true (by omega), decide_eq_true ⟨q1, q2⟩⟩
    ·exact .inr (.inl ⟨decide_eq_true (by omega), decide_eq_false (by omega), decide_eq_false fun h => q2 h.2⟩)
   ·exact .inr (.inr ⟨decide_eq_false (by omega), decide_eq_false fun h => q1 h.1⟩)
  clear ih hof hK hr
  generalize ~~~s = sn at *
  generalize s ||| of = so at *
  generalize mem s (i + 1) = R1 at *
  generalize mem s i = R0 at *
  generalize mem s 256 = R at *
  cases hb1 : s.getLsbD i
  case' true =>
   obtain ⟨m5, m6, m7⟩ := m1 hb1
   rw [m7] at h
   clear m2
  case' false =>
   rw [m2 hb1] at h
   clear m1
  all_goals
   rw [hb1] at a1 a2 a6 a8
   clear hb1
   cases hb2 : decide (i ∈ M)
   all_goals
    rw [hb2] at a3 a8 a9
    clear hb2
    rcases hqq with ⟨q1, q2, q3⟩ | ⟨q1, q2, q3⟩ | ⟨q1, q3⟩
    all_goals
     rw [q3] at a4
     clear q3
     refine wbc wtc ?_
     unfold wrc
     (repeat' (first | (simp -implicitDefEqProofs (maxSteps := 2000000) (disch := first | with_reducible assumption | omega | (simp only [zS, zA, seval, wac, wsg, wfn, wbf, wh, wkb, wcl, wcd, wld, whf, zD, s2l, s2n, s2s, s3l, s3n, s3s] <;> omega) | fail) only [zS, argl, insA, Go.Den.wm, ww, wbb, looks, wxb, wnb, idOf, riA, seval, kK, wrb, wsb, wkb, wju u8T, wzgb u8T, wbf, wsc, wh, wzh, wld, whf, wpob, wdh, wrj, whv, wiv, wjv, wkv, *, zT, s2l, s2n, s2s, s3l, s3n, s3s]) | (with_reducible (first | apply z1 | apply z2 | apply z3 | apply z4) <;> intro hq <;> (try simp only [zH] at hq) <;> (try (exfalso; omega))) | (with_reducible apply z5; (case hl => (repeat (first | exact .nil | with_reducible apply z6 | with_reducible apply z7))); (case h => kernel_rfl))))
     all_goals first | exact h | rfl | trace_state
end
end Go.Proofs.Ytjihbfdbgamcdaa
namespace Go.Proofs.Ytjihbfdbgamcdaa
set_option linter.unusedVariables false
set_option linter.unusedSimpArgs false
open Go.Den
noncomputable section
theorem wjzb {e : Env} {H : AH} {size t n : Nat} {cs : List Value} {x : Operand} : slSR e H size (FO t n cs) (some x) none none = slG size n cs (wce (evl e x)) (some n) := by
 show (match wce (evl e x), some n with
  | some l, some h => slF2 size (n, cs) e none none l h
  | _, _ => .none) = _
 cases wce (evl e x) <;> rfl
theorem wkzb {e : Env} {H : AH} {size t n : Nat} {cs : List Value} {y : Operand} : slSR e H size (FO t n cs) none (some y) none = slG size n cs (some 0) (wce (evl e y)) := by
 show (match some 0, wce (evl e y) with
  | some l, some h => slF2 size (n, cs) e (some y) none l h
  | _, _ => .none) = _
 cases wce (evl e y) <;> rfl
def slZ : Option Nat → Option Nat → ARes
 | some l, some h => wtq l h
 | _, _ => .none
theorem slS_Za {e : Env} {H : AH} {size : Nat} {a : Addr} {x : Operand} : slSR e H size (.slice (some a) 0 1) (some x) none none = slZ (wce (evl e x)) (some 0) := by
 show (match wce (evl e x), some 0 with
  | some l, some h => wmz H size a 0 1 l h
  | _, _ => .none) = _
 cases wce (evl e x) <;> rfl
theorem slS_Zb {e : Env} {H : AH} {size : Nat} {a : Addr} {y : Operand} : slSR e H size (.slice (some a) 0 1) none (some y) none = slZ (some 0) (wce (evl e y)) := by
 show (match some 0, wce (evl e y) with
  | some l, some h => wmz H size a 0 1 l h
  | _, _ => .none) = _
 cases wce (evl e y) <;> rfl
theorem slZ_00 : slZ (some 0) (some 0) = wtq 0 0 := rfl
theorem by_takeS {L : List Nat} {c : Nat} (h : c ≤ L.length) : slG 1 L.length (byC L) (some 0) (some c) = val (FL (L.take c).length (byC (L.take c))) := by
 rw [wygb (Nat.zero_le _) h (by rw [wkb, Nat.mul_one]), List.length_take, Nat.min_eq_left h, Nat.sub_zero, Nat.mul_one, Nat.mul_one]
 unfold slotsOf byC
 rw [List.drop_zero, ← List.map_take]
theorem rm_cut {M : List Nat} : slG 1 (M.length + 80) (rmC M 7 80 0) (some 0) (some M.length) = val (FL M.length (byC M)) := by
 rw [wygb (Nat.zero_le _) (by omega) (by rw [wlu]; omega), Nat.sub_zero, Nat.mul_one, Nat.mul_one, wgyb]
theorem btS {α : Type} [DecidableEq α] {a : α} : decide (a = a) = true := decide_eq_true rfl
theorem wlzb {b : Bool} : (b == b) = true := by cases b <;> rfl
theorem by_nf {M : List Nat} : nfL (byC M) = byC M := wdn (wds M)
theorem by_at {M : List Nat} : wdd (byC M) = true := wds M
theorem wmzb {n : Nat} : decide ((n : Int) = 1) = decide (n = 1) := decide_eq_decide.2 (by omega)
theorem wnzb {fr to i : Nat} (hi : i < 256) : (rng fr (to + 1 - fr)).getLsbD i = decide (fr ≤ i ∧ i ≤ to) := by
 rw [rngT_bit, decide_eq_true hi, Bool.true_and]
 exact decide_eq_decide.2 (by omega)
set_option maxRecDepth 100000 in
set_option maxHeartbeats 32000000 in
theorem bt_N (s : BitVec 256) (fr to : Nat) (hf : fr < 256) (ht : to < 256) (name : List UInt8) : lim Try.prog cfg (.call 9 [sV s, FL 0 [], .int .u8 fr, .int .u8 to, str name]) (HP []) = some (.val (.bool true), HP []) := by
 have rr := wdz fr to hf ht
 have cl := wgz name
 have rc := wucb name
 have by' := wez s
 have on := wvxb s
 have cn := wvp s
 have bu := wmu
 have lm := weo s 256
 have cr := wncb name
 rw [wbjb] at cn
 rw [cr] at cl
 simp only at cl
 have ro := wajb [] (by simp) 7
 have it := wscb [] (by simp) 7
 have ofl := wug [] (by simp) (by simp)
 rw [show ([] : List Nat).length = 0 from rfl, show byC [] = [] from rfl] at ro it ofl
 rw [Nat.zero_add] at ro it
 have cu : slG 1 80 (rmC [] 7 80 0) (some 0) (some 0) = val (FL 0 []) := rm_cut (M := [])
 have l0 := fun zb D okv isv => bt0_N s (ofL []) (rng fr (to + 1 - fr)) D D zb isv okv fr to 0 0 [] rfl
 have l1 := fun zb D okv isv => bt1_N s (ofL []) (rng fr (to + 1 - fr)) D D zb isv okv fr to [] (fun i hi => by rw [whzb]; simp) (fun i => by simp) (fun i hi => wnzb hi) 256 0 rfl
 simp only [inL, wes, wmn, show ([] : List Nat).length = 0 from rfl, Nat.zero_add, show ((0 : Nat) : Int) = 0 from rfl, show (mem s 0).length = 0 from rfl] at l0 l1
 generalize ofL [] = of at *
 have hz0 : wtq 0 0 = val (.slice (some ⟨0, 0, none⟩) 0 1) := rfl
 have hz : slG 1 0 [] (some 0) (some 0) = val (FL 0 []) := rfl
 have hm0 : min (0 : Int) 20 = 0 := by omega
 generalize gath (rclF name) 256 = D at *
 generalize decide (D ≠ 0#256) = okv at *
 clear cr
 unfold onlyB at on
 generalize mem s 256 = R at *
 generalize rng fr (to + 1 - fr) = rs at *
 by_cases h1 : R.length = 1
 case' pos =>
  obtain ⟨x, rfl⟩ := List.length_eq_one_iff.1 h1
  rw [if_pos h1, decide_eq_true h1, show ([x] : List Nat).getD 0 0 = x from rfl] at on
  rw [show ([x] : List Nat).length = 1 from rfl, show byC [x] = [.int .u8 (x : Nat)] from rfl] at *
  clear h1
 case' neg =>
  rw [if_neg h1, decide_eq_false h1, show ((0 : Nat) : Int) = 0 from rfl] at on
  have hi1 : decide (((R.length : Nat) : Int) = 1) = false := by rw [wmzb]; exact decide_eq_false h1
  clear h1
 all_goals
  refine wfb hc wvf (Nat.le_of_ble_eq_true rfl) (Nat.le_of_ble_eq_true rfl) ?_
  unfold waf
  (repeat' (first | (simp -implicitDefEqProofs (maxSteps := 2000000) (disch := first | with_reducible assumption | omega | (simp only [zS, zA, seval, by_nf, by_at, wac, wsg, wfn, wbf, wh, wkb, wcl, wld, whf, zD] <;> omega) | fail) only [zS, argl, insA, Go.Den.wm, ww, wbb, looks, wxb, wnb, idOf, riA, seval, Go.Den.wu, kK, wrb, wsb, wkb, wbf, wes, wh, wzh, wdh, wrj, whv, wiv, wjv, wkv, neqZ, eqS, wbs, wlzb, by_nf, btS, wld, whf, wpob, wcyb, wxgb, wjzb, wkzb, slS_Za, slS_Zb, slZ_00, wrq, wqw, wpcb, Int.toNat_zero, *, zT]) | (with_reducible (first | apply z1 | apply z2 | apply z3 | apply z4) <;> intro hq <;> (try simp only [zH] at hq) <;> (try (exfalso; omega)))))
  all_goals rfl
set_option maxRecDepth 100000 in
set_option maxHeartbeats 32000000 in
theorem bt_C (s : BitVec 256) (L : List Nat) (hb : ∀ x ∈ L, x < 256) (h0 : 0 < L.length) (fr to : Nat) (hf : fr < 256) (ht : to < 256) (name : List UInt8) : lim Try.prog cfg (.call 9 [sV s, FL L.length (byC L), .int .u8 fr, .int .u8 to, str name]) (HP []) = some (.val (.bool true), HP []) := by
 have rr := wdz fr to hf ht
 have cl := wgz name
 have rc := wucb name
 have by' := wez s
 have on := wvxb s
 have cn := wvp s
 have bu := wmu
 have lm := weo s 256
 have cr := wncb name
 rw [wbjb] at cn
 rw [cr] at cl
 simp only at cl
 obtain ⟨c, hc'⟩ : ∃ c : Nat, min (L.length : Int) 20 = (c : Int) := ⟨min L.length 20, by omega⟩
 have hcl : c ≤ L.length := by omega
 have cuL := by_takeS hcl
 have hM20 : (L.take c).length ≤ 20 := by rw [List.length_take]; omega
 have hM0 : 0 < (L.take c).length := by rw [List.length_take]; omega
 have hbM : ∀ x ∈ L.take c, x < 256 := fun x hx => hb x (List.mem_of_mem_take hx)
 have hLl := wkb (l := L)
 generalize L.take c = M at *
 have ro := wajb M hM20 7
 have it := wscb M hM20 7
 have ofl := wug M (by omega) hbM
 have cu := rm_cut (M := M)
 have l0 := fun D okv isv => bt0_C s (ofL M) (rng fr (to + 1 - fr)) D D M hM20 hM0 isv okv fr to M.length 0 [] (by omega)
 have l1 := fun D okv isv => bt1_C s (ofL M) (rng fr (to + 1 - fr)) D D M hM20 hM0 isv okv fr to (inL M []) (fun i hi => by rw [whzb, decide_eq_true hi, Bool.true_and]) (fun i => inL_nat) (fun i hi => wnzb hi) 256 0 rfl
 simp only [List.drop_zero, wes, wmn, show ((0 : Nat) : Int) = 0 from rfl, show (mem s 0).length = 0 from rfl] at l0 l1
 generalize inL M [] = K at *
 generalize ofL M = of at *
 have hml := wkb (l := M)
 clear hb hbM
 generalize gath (rclF name) 256 = D at *
 generalize decide (D ≠ 0#256) = okv at *
 clear cr
 unfold onlyB at on
 generalize mem s 256 = R at *
 generalize rng fr (to + 1 - fr) = rs at *
 by_cases h1 : R.length = 1
 case' pos =>
  obtain ⟨x, rfl⟩ := List.length_eq_one_iff.1 h1
  rw [if_pos h1, decide_eq_true h1, show ([x] : List Nat).getD 0 0 = x from rfl] at on
  rw [show ([x] : List Nat).length = 1 from rfl, show byC [x] = [.int .u8 (x : Nat)] from rfl] at *
  clear h1
 case' neg =>
  rw [if_neg h1, decide_eq_false h1, show ((0 : Nat) : Int) = 0 from rfl] at on
  have hi1 : decide (((R.length : Nat) : Int) = 1) = false := by rw [wmzb]; exact decide_eq_false h1
  clear h1
 all_goals
  refine wfb hc wvf (Nat.le_of_ble_eq_true rfl) (Nat.le_of_ble_eq_true rfl) ?_
  unfold waf
  (repeat' (first | (simp -implicitDefEqProofs (maxSteps := 2000000) (disch := first | with_reducible assumption | omega | (simp only [zS, zA, seval, by_nf, by_at, wac, wsg, wfn, wbf, wh, wkb, wcl, wld, whf, zD] <;> omega) | fail) only [zS, argl, insA, Go.Den.wm, ww, wbb, looks, wxb, wnb, idOf, riA, seval, Go.Den.wu, kK, wrb, wsb, wkb, wbf, wes, wh, wzh, wdh, wrj, whv, wiv, wjv, wkv, neqZ, eqS, wbs, wlzb, by_nf, btS, wld, whf, wpob, wcyb, wxgb, wjzb, wkzb, slS_Za, slS_Zb, slZ_00, wrq, wqw, wpcb, Int.toNat_zero, *, zT]) | (with_reducible (first | apply z1 | apply z2 | apply z3 | apply z4) <;> intro hq <;> (try simp only [zH] at hq) <;> (try (exfalso; omega)))))
  all_goals rfl
theorem wvcb (s : BitVec 256) (L : List Nat) (hb : ∀ x ∈ L, x < 256) (fr to : Nat) (hf : fr < 256) (ht : to < 256) (name : List UInt8) : lim Try.prog cfg (.call 9 [sV s, FL L.length (byC L), .int .u8 fr, .int .u8 to, str name]) (HP []) = some (.val (.bool true), HP []) := by
 by_cases h : L = []
 ·subst h; exact bt_N s fr to hf ht name
 ·exact bt_C s L hb (List.length_pos_iff.2 h) fr to hf ht name
end
end Go.Proofs.Ytjihbfdbgamcdaa
