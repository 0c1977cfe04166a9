/-
  PARTS OF A PROOF, joined by a program (5 of 6): a proved reckoner of the model, and what the functions come to.
-/
import Derived.Test.YtdbhfmdndiphcaaQFindText4
set_option linter.unusedVariables false
set_option linter.unusedSimpArgs false
namespace Go.Proofs.Ytdbhfmdndiphcaa
set_option linter.unusedVariables false
set_option linter.unusedSimpArgs false
open Go.Den
noncomputable section
theorem ev_back (s : List UInt8) (hs : s.length ≤ 1000) (bol : Bool) (n : Int) (n1 : 1 ≤ n) (n3 : n ≤ 3) (x : St) (hx : GdS s.length x) :
    lim Try.prog cfg (.call 84 [.agg ⟨[str s, .bool bol]⟩, .int .i64 n, .agg ⟨stC x⟩]) (HP []) = some (.val (FL (wmsb s n x).length (stsC (wmsb s n x))), HP []) := by
  refine wjc hc wgq (Nat.le_of_ble_eq_true rfl) (Nat.le_of_ble_eq_true rfl) ?_
  unfold wsm
  have h := hx.sp n.toNat (by omega) (by omega)
  have hlo := hx.lo
  have hhi := hx.hi
  unfold wmsb
  obtain ⟨f, hf⟩ : ∃ f, x.2.at (n.toNat * 2) = f := ⟨_, rfl⟩
  obtain ⟨t, ht⟩ : ∃ t, x.2.at (n.toNat * 2 + 1) = t := ⟨_, rfl⟩
  rw [hf, ht] at h ⊢
  rcases h with ⟨rfl, rfl⟩ | ⟨h1, h2, h3⟩
  · (repeat' (first | (simp -implicitDefEqProofs (maxSteps := 2000000) (disch := first | with_reducible assumption | omega | (simp only [zS, zA, Nat.reduceEqDiff, Nat.reduceLT, Nat.reduceLeDiff, Nat.reduceAdd, Nat.reduceSub, reduceCtorEq, zD] <;> omega) | fail) only [zS, argl, insA, Go.Den.wm, wo, wu, looks, wfb, web, idOf, riA, Nat.reduceLeDiff, Nat.reduceLT, Nat.reduceEqDiff, Nat.reduceDiv, Nat.reduceMod, Int.reduceLT, Int.reduceLE, Int.reduceEq, Int.reduceNeg, Int.reduceToNat, Int.reduceSub, Int.reduceMul, Int.reduceNe, Nat.reduceAdd, Nat.reduceMul, Nat.reduceSub, Int.reduceAdd, reduceCtorEq, Go.Den.wh, kK, *, zT]) | (with_reducible (first | apply z1 | apply z2 | apply z3 | apply z4) <;> intro hq <;> (try simp only [zH] at hq) <;> (try (exfalso; omega))) | (with_reducible apply z5; (case hl => (repeat (first | exact .nil | with_reducible apply z6 | with_reducible apply z7))); (case h => kernel_rfl))))
  · have h0 : ¬ f < 0 := by omega
    (repeat' (first | (simp -implicitDefEqProofs (maxSteps := 2000000) (disch := first | with_reducible assumption | omega | (simp only [zS, zA, Nat.reduceEqDiff, Nat.reduceLT, Nat.reduceLeDiff, Nat.reduceAdd, Nat.reduceSub, reduceCtorEq, zD] <;> omega) | fail) only [zS, argl, insA, Go.Den.wm, wo, wu, looks, wfb, web, idOf, riA, Nat.reduceLeDiff, Nat.reduceLT, Nat.reduceEqDiff, Nat.reduceDiv, Nat.reduceMod, Int.reduceLT, Int.reduceLE, Int.reduceEq, Int.reduceNeg, Int.reduceToNat, Int.reduceSub, Int.reduceMul, Int.reduceNe, Nat.reduceAdd, Nat.reduceMul, Nat.reduceSub, Int.reduceAdd, reduceCtorEq, Go.Den.wh, kK, *, zT]) | (with_reducible (first | apply z1 | apply z2 | apply z3 | apply z4) <;> intro hq <;> (try simp only [zH] at hq) <;> (try (exfalso; omega))) | (with_reducible apply z5; (case hl => (repeat (first | exact .nil | with_reducible apply z6 | with_reducible apply z7))); (case h => kernel_rfl))))
    all_goals simp_all [wdg, wecb]
def wzr (w : St → List St) (l : List St) (out : List St) : List St := l.foldl (fun out y => addF out (w y)) out
theorem wts (w : St → List St) (y : St) (l out : List St) : wzr w (y :: l) out = wzr w l (addF out (w y)) := rfl
abbrev frC (s : List UInt8) (bol : Bool) (r : Rx) (l : List St) : List ABlk := [X [str s, .bool bol] 123 0 true, X (rxC r) 47 0 true, X [FO 3 l.length (stsC l), .map (some 4)] 158 0 false, .tok l.length 113 9, .map (setK stC l)]
abbrev frN (s : List UInt8) (bol : Bool) (r : Rx) : List ABlk := [X [str s, .bool bol] 123 0 true, X (rxC r) 47 0 true, X [.slice none 0 0, .map (some 3)] 158 0 false, .map []]
theorem wgnb (w : St → List St) : ∀ (l out : List St), out ≠ [] → wzr w l out ≠ [] := by
  intro l
  induction l with
  | nil => intro out h; exact h
  | cons y l ih => intro out h; exact ih _ (woh (.inl h))
def rowO (l : List St) : List ABlk := if l = [] then rowN else rowC l
theorem wnsb (s : List UInt8) (hs : s.length ≤ 12) (bol : Bool) (r : Rx) (w : St → List St) (a : Int) (l : List St) (hll : l.length ≤ 16000000) (hl : ∀ y ∈ l, GdS s.length y ∧ a ≤ y.1) (hw : ∀ y, GdS s.length y → RwS s.length y.1 (w y) ∧ lim Try.prog cfg (.call 63 [.agg ⟨[str s, .bool bol]⟩, .agg ⟨rxC r⟩, .agg ⟨stC y⟩]) (HP []) = some (.val (FL (w y).length (stsC (w y))), HP [])) :
    ∀ (k i : Nat) (out : List St), i + k = l.length → out ≠ [] → RwS s.length a out →
    lim Try.prog cfg (.loop 87 0 (wcg 0) (SE (EJ 28 G0) [(13, .int .i64 i), (12, .int .i64 l.length), (11, FL l.length (stsC l)), (7, .pointer (some ⟨2, 0, none⟩)), (4, .pointer (some ⟨1, 0, none⟩)), (3, .pointer (some ⟨0, 0, none⟩))])) (HP (frC s bol r out)) = some (.code (.exit 0) (SE (EJ 28 G0) [(7, .pointer (some ⟨0, 0, none⟩))]), HP (rowC (wzr w (l.drop i) out))) := by
  intro k
  induction k with
  | zero =>
    intro i out hi ho hr
    rw [List.drop_of_length_le (by omega)]
    refine ww wff ?_
    unfold wef
    (repeat' (first | (simp -implicitDefEqProofs (maxSteps := 2000000) (disch := first | with_reducible assumption | omega | (simp only [zS, zA, Nat.reduceEqDiff, Nat.reduceLT, Nat.reduceLeDiff, Nat.reduceAdd, Nat.reduceSub, reduceCtorEq, wab, zD] <;> omega) | fail) only [zS, argl, insA, Go.Den.wm, wo, wu, looks, wfb, web, idOf, riA, Nat.reduceLeDiff, Nat.reduceLT, Nat.reduceEqDiff, Nat.reduceDiv, Nat.reduceMod, Int.reduceLT, Int.reduceLE, Int.reduceEq, Int.reduceNeg, Int.reduceToNat, Int.reduceSub, Int.reduceMul, Int.reduceNe, Nat.reduceAdd, Nat.reduceMul, Nat.reduceSub, Int.reduceAdd, reduceCtorEq, Go.Den.wh, kK, wrd, wab, *, zT]) | (with_reducible (first | apply z1 | apply z2 | apply z3 | apply z4) <;> intro hq <;> (try simp only [zH] at hq) <;> (try (exfalso; omega)))))
    all_goals rfl
  | succ k ih =>
    intro i out hi ho hr
    rw [wqg l (by omega), wts]
    have hy := hl (l.getD i St.zero) (by rw [List.getD_eq_getElem?_getD, List.getElem?_eq_getElem (by omega)]; exact List.getElem_mem _)
    have ⟨h1, h2⟩ := hw _ hy.1
    have h3 : RwS s.length a (addF out (w (l.getD i St.zero))) := hr.add (fun z hz => ⟨(h1.good z hz).1, by have := (h1.good z hz).2; omega⟩)
    have h4 := row_len h1 hs
    have h5 := row_len h3 hs
    have h6 := wxo out (w (l.getD i St.zero)) ho (by omega) (by omega)
    refine ww wff ?_
    unfold wef
    (repeat' (first | (simp -implicitDefEqProofs (maxSteps := 2000000) (disch := first | with_reducible assumption | omega | (simp only [zS, zA, Nat.reduceEqDiff, Nat.reduceLT, Nat.reduceLeDiff, Nat.reduceAdd, Nat.reduceSub, reduceCtorEq, wab, zD] <;> omega) | fail) only [zS, argl, insA, Go.Den.wm, wo, wu, looks, wfb, web, idOf, riA, Nat.reduceLeDiff, Nat.reduceLT, Nat.reduceEqDiff, Nat.reduceDiv, Nat.reduceMod, Int.reduceLT, Int.reduceLE, Int.reduceEq, Int.reduceNeg, Int.reduceToNat, Int.reduceSub, Int.reduceMul, Int.reduceNe, Nat.reduceAdd, Nat.reduceMul, Nat.reduceSub, Int.reduceAdd, reduceCtorEq, Go.Den.wh, kK, wrd, wab, wkb, *, zT]) | (with_reducible (first | apply z1 | apply z2 | apply z3 | apply z4) <;> intro hq <;> (try simp only [zH] at hq) <;> (try (exfalso; omega)))))
    exact ih (i + 1) _ (by omega) (woh (.inl ho)) h3
theorem wosb (s : List UInt8) (hs : s.length ≤ 12) (bol : Bool) (r : Rx) (w : St → List St) (a : Int) (l : List St) (hll : l.length ≤ 16000000) (hl : ∀ y ∈ l, GdS s.length y ∧ a ≤ y.1) (hw : ∀ y, GdS s.length y → RwS s.length y.1 (w y) ∧ lim Try.prog cfg (.call 63 [.agg ⟨[str s, .bool bol]⟩, .agg ⟨rxC r⟩, .agg ⟨stC y⟩]) (HP []) = some (.val (FL (w y).length (stsC (w y))), HP [])) :
    ∀ (k i : Nat), i + k = l.length →
    lim Try.prog cfg (.loop 87 0 (wcg 0) (SE (EJ 28 G0) [(13, .int .i64 i), (12, .int .i64 l.length), (11, FL l.length (stsC l)), (7, .pointer (some ⟨2, 0, none⟩)), (4, .pointer (some ⟨1, 0, none⟩)), (3, .pointer (some ⟨0, 0, none⟩))])) (HP (frN s bol r)) = some (.code (.exit 0) (SE (EJ 28 G0) [(7, .pointer (some ⟨0, 0, none⟩))]), HP (rowO (wzr w (l.drop i) []))) := by
  intro k
  induction k with
  | zero =>
    intro i hi
    rw [List.drop_of_length_le (by omega)]
    refine ww wff ?_
    unfold wef
    (repeat' (first | (simp -implicitDefEqProofs (maxSteps := 2000000) (disch := first | with_reducible assumption | omega | (simp only [zS, zA, Nat.reduceEqDiff, Nat.reduceLT, Nat.reduceLeDiff, Nat.reduceAdd, Nat.reduceSub, reduceCtorEq, wab, zD] <;> omega) | fail) only [zS, argl, insA, Go.Den.wm, wo, wu, looks, wfb, web, idOf, riA, Nat.reduceLeDiff, Nat.reduceLT, Nat.reduceEqDiff, Nat.reduceDiv, Nat.reduceMod, Int.reduceLT, Int.reduceLE, Int.reduceEq, Int.reduceNeg, Int.reduceToNat, Int.reduceSub, Int.reduceMul, Int.reduceNe, Nat.reduceAdd, Nat.reduceMul, Nat.reduceSub, Int.reduceAdd, reduceCtorEq, Go.Den.wh, kK, wrd, wab, *, zT]) | (with_reducible (first | apply z1 | apply z2 | apply z3 | apply z4) <;> intro hq <;> (try simp only [zH] at hq) <;> (try (exfalso; omega)))))
    all_goals rfl
  | succ k ih =>
    intro i hi
    have hd := wqg l (show i < l.length by omega)
    rw [hd, wts]
    have hy := hl (l.getD i St.zero) (by rw [List.getD_eq_getElem?_getD, List.getElem?_eq_getElem (by omega)]; exact List.getElem_mem _)
    have ⟨h1, h2⟩ := hw _ hy.1
    have h3 : RwS s.length a (addF [] (w (l.getD i St.zero))) := RwS.nil.add (fun z hz => ⟨(h1.good z hz).1, by have := (h1.good z hz).2; omega⟩)
    have h4 := row_len h1 hs
    have h5 := row_len h3 hs
    have h7 := ih (i + 1) (by omega)
    refine ww wff ?_
    unfold wef
    by_cases hz : w (l.getD i St.zero) = []
    · rw [hz] at h2 ⊢
      clear h1 h3 h4 h5
      rw [List.length_nil, wecb] at h2
      (repeat' (first | (simp -implicitDefEqProofs (maxSteps := 2000000) (disch := first | with_reducible assumption | omega | (simp only [zS, zA, Nat.reduceEqDiff, Nat.reduceLT, Nat.reduceLeDiff, Nat.reduceAdd, Nat.reduceSub, reduceCtorEq, wab, zD] <;> omega) | fail) only [zS, argl, insA, Go.Den.wm, wo, wu, looks, wfb, web, idOf, riA, Nat.reduceLeDiff, Nat.reduceLT, Nat.reduceEqDiff, Nat.reduceDiv, Nat.reduceMod, Int.reduceLT, Int.reduceLE, Int.reduceEq, Int.reduceNeg, Int.reduceToNat, Int.reduceSub, Int.reduceMul, Int.reduceNe, Nat.reduceAdd, Nat.reduceMul, Nat.reduceSub, Int.reduceAdd, reduceCtorEq, Go.Den.wh, kK, wrd, wab, wkb, wfnb, *, zT]) | (with_reducible (first | apply z1 | apply z2 | apply z3 | apply z4) <;> intro hq <;> (try simp only [zH] at hq) <;> (try (exfalso; omega)))))
      exact h7
    · have h6 := wyr (w (l.getD i St.zero)) hz (by omega) (by omega)
      have h8 := wnsb s hs bol r w a l hll hl hw k (i + 1) (addF [] (w (l.getD i St.zero))) (by omega) (woh (.inr hz)) h3
      rw [rowO, if_neg (wgnb w _ _ (woh (.inr hz)))]
      clear h7
      (repeat' (first | (simp -implicitDefEqProofs (maxSteps := 2000000) (disch := first | with_reducible assumption | omega | (simp only [zS, zA, Nat.reduceEqDiff, Nat.reduceLT, Nat.reduceLeDiff, Nat.reduceAdd, Nat.reduceSub, reduceCtorEq, wab, zD] <;> omega) | fail) only [zS, argl, insA, Go.Den.wm, wo, wu, looks, wfb, web, idOf, riA, Nat.reduceLeDiff, Nat.reduceLT, Nat.reduceEqDiff, Nat.reduceDiv, Nat.reduceMod, Int.reduceLT, Int.reduceLE, Int.reduceEq, Int.reduceNeg, Int.reduceToNat, Int.reduceSub, Int.reduceMul, Int.reduceNe, Nat.reduceAdd, Nat.reduceMul, Nat.reduceSub, Int.reduceAdd, reduceCtorEq, Go.Den.wh, kK, wrd, wab, wkb, *, zT]) | (with_reducible (first | apply z1 | apply z2 | apply z3 | apply z4) <;> intro hq <;> (try simp only [zH] at hq) <;> (try (exfalso; omega)))))
      exact h8
theorem wlcc (s : List UInt8) (hs : s.length ≤ 12) (bol : Bool) (r : Rx) (w : St → List St) (a : Int) (l : List St) (hll : l.length ≤ 16000000) (hl : ∀ y ∈ l, GdS s.length y ∧ a ≤ y.1) (hw : ∀ y, GdS s.length y → RwS s.length y.1 (w y) ∧ lim Try.prog cfg (.call 63 [.agg ⟨[str s, .bool bol]⟩, .agg ⟨rxC r⟩, .agg ⟨stC y⟩]) (HP []) = some (.val (FL (w y).length (stsC (w y))), HP [])) :
    lim Try.prog cfg (.call 87 [.agg ⟨[str s, .bool bol]⟩, .agg ⟨rxC r⟩, FL l.length (stsC l)]) (HP []) = some (.val (FL (whcb w l).length (stsC (whcb w l))), HP []) := by
  refine wjc hc whq (Nat.le_of_ble_eq_true rfl) (Nat.le_of_ble_eq_true rfl) ?_
  unfold wtm
  have h := wosb s hs bol r w a l hll hl hw l.length 0 (by omega)
  rw [List.drop_zero, show ((0 : Nat) : Int) = 0 from rfl] at h
  show _ = some (Out.val (FL (wzr w l []).length (stsC (wzr w l []))), HP [])
  clear hw
  by_cases hz : wzr w l [] = []
  · rw [rowO, if_pos hz] at h
    rw [hz]
    (repeat' (first | (simp -implicitDefEqProofs (maxSteps := 2000000) (disch := first | with_reducible assumption | omega | (simp only [zS, zA, Nat.reduceEqDiff, Nat.reduceLT, Nat.reduceLeDiff, Nat.reduceAdd, Nat.reduceSub, reduceCtorEq, wab, zD] <;> omega) | fail) only [zS, argl, insA, Go.Den.wm, wo, wu, looks, wfb, web, idOf, riA, Nat.reduceLeDiff, Nat.reduceLT, Nat.reduceEqDiff, Nat.reduceDiv, Nat.reduceMod, Int.reduceLT, Int.reduceLE, Int.reduceEq, Int.reduceNeg, Int.reduceToNat, Int.reduceSub, Int.reduceMul, Int.reduceNe, Nat.reduceAdd, Nat.reduceMul, Nat.reduceSub, Int.reduceAdd, reduceCtorEq, Go.Den.wh, kK, wrd, wab, wbj, *, zT]) | (with_reducible (first | apply z1 | apply z2 | apply z3 | apply z4) <;> intro hq <;> (try simp only [zH] at hq) <;> (try (exfalso; omega)))))
  · rw [rowO, if_neg hz] at h
    (repeat' (first | (simp -implicitDefEqProofs (maxSteps := 2000000) (disch := first | with_reducible assumption | omega | (simp only [zS, zA, Nat.reduceEqDiff, Nat.reduceLT, Nat.reduceLeDiff, Nat.reduceAdd, Nat.reduceSub, reduceCtorEq, wab, zD] <;> omega) | fail) only [zS, argl, insA, Go.Den.wm, wo, wu, looks, wfb, web, idOf, riA, Nat.reduceLeDiff, Nat.reduceLT, Nat.reduceEqDiff, Nat.reduceDiv, Nat.reduceMod, Int.reduceLT, Int.reduceLE, Int.reduceEq, Int.reduceNeg, Int.reduceToNat, Int.reduceSub, Int.reduceMul, Int.reduceNe, Nat.reduceAdd, Nat.reduceMul, Nat.reduceSub, Int.reduceAdd, reduceCtorEq, Go.Den.wh, kK, wrd, wab, wbj, *, zT]) | (with_reducible (first | apply z1 | apply z2 | apply z3 | apply z4) <;> intro hq <;> (try simp only [zH] at hq) <;> (try (exfalso; omega)))))
end
end Go.Proofs.Ytdbhfmdndiphcaa
namespace Go.Proofs.Ytdbhfmdndiphcaa
set_option linter.unusedVariables false
set_option linter.unusedSimpArgs false
open Go.Den
noncomputable section
abbrev Turn := Int × St
def trC (p : Turn) : List Value := .int .i64 p.1 :: stC p.2
theorem wjgb {p : Turn} : (trC p).length = 10 := by rw [trC, List.length_cons, wiz]
theorem tr_atom {p : Turn} : wye (trC p) = true := by rw [trC, wss, wskb]; rfl
theorem wof (p : Turn) : FzL (trC p) := fzl tr_atom
theorem wbg {p : Turn} : wuk (trC p) = true := by rw [trC, wvo, wtkb]; rfl
theorem tr_bq {p : Turn} : beqL (trC p) (trC p) = true := by rw [trC, wkh, wur, wqbc]; rfl
theorem tr_fits {p : Turn} : wwe [.int .i64, .int .i64, .int .i64, .int .i64, .int .i64, .int .i64, .int .i64, .int .i64, .int .i64, .int .i64] (trC p) = true := by
  rw [trC]; show (true && wwe _ (stC p.2)) = true; rw [wccb]; rfl
theorem tr_eqL {p q : Turn} : eqL (trC p) (trC q) = decide (p = q) := by
  obtain ⟨a, m⟩ := p
  obtain ⟨b, n⟩ := q
  show ((a == b) && eqL (stC m) (stC n)) = _
  rw [wnbc]
  by_cases h1 : a = b <;> by_cases h2 : m = n <;> simp [h1, h2]
theorem wmcc {n : Int} {x : St} : (Value.int .i64 n :: stC x) = trC (n, x) := rfl
theorem whnb {p : Turn} : slotsOf (trC p) 0 10 = trC p := wzj wjgb
theorem wwg : KeyT Try.prog 181 trC :=
  ⟨by kernel_rfl, ⟨[.int .i64, .int .i64, .int .i64, .int .i64, .int .i64, .int .i64, .int .i64, .int .i64, .int .i64, .int .i64], by kernel_rfl, fun _ => tr_fits⟩, fun _ _ => tr_eqL, fun _ => wbg⟩
theorem wwb (l : List Turn) : beqP (setK trC l) (setK trC l) = true := wzbc (fun _ => tr_bq) l
section
variable (s : List UInt8) (bol : Bool) (mn mx nn : Int) (set : BitVec 256) (kids : List Rx)
abbrev repB : ABlk := X [str s, .bool bol, .int .i64 4, .int .i64 mn, .int .i64 mx, .int .i64 nn, wdV set 0, wdV set 1, wdV set 2, wdV set 3, FL kids.length (rxsC kids), .pointer (some ⟨1, 0, none⟩), .map (some 2)] 163 0 false
abbrev reN (met : List Turn) : List ABlk := [repB s bol mn mx nn set kids, X [.slice none 0 0, .map (some 3)] 158 0 false, .map (setK trC met), .map []]
abbrev reC (met : List Turn) (out : List St) : List ABlk := [repB s bol mn mx nn set kids, X [FO 3 out.length (stsC out), .map (some 4)] 158 0 false, .map (setK trC met), .tok out.length 113 9, .map (setK stC out)]
abbrev reE (met : List Turn) (out : List St) : List ABlk := [repB s bol mn mx nn set kids, X [FO 4 out.length (stsC out), .map (some 3)] 158 0 false, .map (setK trC met), .map (setK stC out), .tok out.length 113 9]
theorem ev_key_N (met : List Turn) (n : Int) (x : St) : lim Try.prog cfg (.call 108 [.pointer (some ⟨0, 0, none⟩), .int .i64 n, .agg ⟨stC x⟩]) (HP (reN s bol mn mx nn set kids met)) = some (.val (.agg ⟨trC (keyF mn mx n x)⟩), HP (reN s bol mn mx nn set kids met)) := by
  refine wjc hc wfi (Nat.le_of_ble_eq_true rfl) (Nat.le_of_ble_eq_true rfl) ?_
  unfold wmh keyF
  (repeat' (first | (simp -implicitDefEqProofs (maxSteps := 2000000) (disch := first | with_reducible assumption | omega | (simp only [zS, zA, Nat.reduceEqDiff, Nat.reduceLT, Nat.reduceLeDiff, Nat.reduceAdd, Nat.reduceSub, reduceCtorEq, wab, wjgb, wof, zD] <;> omega) | fail) only [zS, argl, insA, Go.Den.wm, wo, wu, looks, wfb, web, idOf, riA, Nat.reduceLeDiff, Nat.reduceLT, Nat.reduceEqDiff, Nat.reduceDiv, Nat.reduceMod, Int.reduceLT, Int.reduceLE, Int.reduceEq, Int.reduceNeg, Int.reduceToNat, Int.reduceSub, Int.reduceMul, Int.reduceNe, Nat.reduceAdd, Nat.reduceMul, Nat.reduceSub, Int.reduceAdd, reduceCtorEq, Go.Den.wh, kK, wab, wmcc, whnb, wjgb, wof, *, zT]) | (with_reducible (first | apply z1 | apply z2 | apply z3 | apply z4) <;> intro hq <;> (try simp only [zH] at hq) <;> (try (exfalso; omega)))))
theorem ev_key_C (met : List Turn) (out : List St) (n : Int) (x : St) : lim Try.prog cfg (.call 108 [.pointer (some ⟨0, 0, none⟩), .int .i64 n, .agg ⟨stC x⟩]) (HP (reC s bol mn mx nn set kids met out)) = some (.val (.agg ⟨trC (keyF mn mx n x)⟩), HP (reC s bol mn mx nn set kids met out)) := by
  refine wjc hc wfi (Nat.le_of_ble_eq_true rfl) (Nat.le_of_ble_eq_true rfl) ?_
  unfold wmh keyF
  (repeat' (first | (simp -implicitDefEqProofs (maxSteps := 2000000) (disch := first | with_reducible assumption | omega | (simp only [zS, zA, Nat.reduceEqDiff, Nat.reduceLT, Nat.reduceLeDiff, Nat.reduceAdd, Nat.reduceSub, reduceCtorEq, wab, wjgb, wof, zD] <;> omega) | fail) only [zS, argl, insA, Go.Den.wm, wo, wu, looks, wfb, web, idOf, riA, Nat.reduceLeDiff, Nat.reduceLT, Nat.reduceEqDiff, Nat.reduceDiv, Nat.reduceMod, Int.reduceLT, Int.reduceLE, Int.reduceEq, Int.reduceNeg, Int.reduceToNat, Int.reduceSub, Int.reduceMul, Int.reduceNe, Nat.reduceAdd, Nat.reduceMul, Nat.reduceSub, Int.reduceAdd, reduceCtorEq, Go.Den.wh, kK, wab, wmcc, whnb, wjgb, wof, *, zT]) | (with_reducible (first | apply z1 | apply z2 | apply z3 | apply z4) <;> intro hq <;> (try simp only [zH] at hq) <;> (try (exfalso; omega)))))
def muF (mn mx : Int) (len : Nat) (n : Int) (x : St) : Nat := if mx < 0 then (mn - n).toNat + ((len : Int) - x.1).toNat else (mx - n).toNat
def KidOk (s : List UInt8) (bol : Bool) (kids : List Rx) (w : St → List St) : Prop :=
  ∃ kid, slotsOf (rxsC kids) 0 9 = rxC kid ∧ 0 < kids.length ∧ ∀ y, GdS s.length y → RwS s.length y.1 (w y) ∧ lim Try.prog cfg (.call 63 [.agg ⟨[str s, .bool bol]⟩, .agg ⟨rxC kid⟩, .agg ⟨stC y⟩]) (HP []) = some (.val (FL (w y).length (stsC (w y))), HP [])
def OnC (w : St → List St) (a : Int) (k : Nat) : Prop := ∀ (n : Int) (x : St) (met : List Turn) (out : List St), 0 ≤ n → n + k ≤ 1000 → GdS s.length x → a ≤ x.1 → muF mn mx s.length n x < k → out ≠ [] → RwS s.length a out →
  lim Try.prog cfg (.call 88 [.pointer (some ⟨0, 0, none⟩), .int .i64 n, .agg ⟨stC x⟩]) (HP (reC s bol mn mx nn set kids met out)) = some (.val (.tuple ⟨[]⟩), HP (reC s bol mn mx nn set kids (onF w mn mx k n x (met, out)).1 (onF w mn mx k n x (met, out)).2))
theorem on_ne {w : St → List St} {mn mx : Int} : ∀ (k : Nat) (n : Int) (x : St) (a : List Turn × List St), a.2 ≠ [] → (onF w mn mx k n x a).2 ≠ [] := by
  intro k
  induction k with
  | zero => intro n x a h; exact h
  | succ k ih =>
    intro n x a h
    have hf : ∀ (l : List St) (b : List Turn × List St), b.2 ≠ [] → (l.foldl (fun b y => if y.1 ≠ x.1 ∨ n < mn then onF w mn mx k (n + 1) y b else b) b).2 ≠ [] := by
      intro l
      induction l with
      | nil => intro b hb; exact hb
      | cons y l ih2 =>
        intro b hb
        refine ih2 _ ?_
        show (if y.1 ≠ x.1 ∨ n < mn then onF w mn mx k (n + 1) y b else b).2 ≠ []
        split
        · exact ih _ _ _ hb
        · exact hb
    unfold onF
    split
    · exact h
    · simp only
      have hb : (if mx < 0 ∨ n < mx then (w x).foldl (fun b y => if y.1 ≠ x.1 ∨ n < mn then onF w mn mx k (n + 1) y b else b) (a.1 ++ [keyF mn mx n x], a.2) else (a.1 ++ [keyF mn mx n x], a.2)).2 ≠ [] := by
        split
        · exact hf _ _ h
        · exact h
      split
      · exact woh (.inl hb)
      · exact hb
def wrt (w : St → List St) (mn mx : Int) (k : Nat) (n : Int) (x : St) (l : List St) (b : List Turn × List St) : List Turn × List St := l.foldl (fun b y => if y.1 ≠ x.1 ∨ n < mn then onF w mn mx k (n + 1) y b else b) b
theorem wjl {w : St → List St} {mn mx : Int} {k : Nat} {n : Int} {x y : St} {l : List St} {b : List Turn × List St} : wrt w mn mx k n x (y :: l) b = wrt w mn mx k n x l (if y.1 ≠ x.1 ∨ n < mn then onF w mn mx k (n + 1) y b else b) := rfl
set_option maxHeartbeats 4000000 in
theorem on_loopC (hs : s.length ≤ 12) (hmn : 0 ≤ mn ∧ mn ≤ 20) (hmx : mx ≤ 20) (w : St → List St) (a : Int) (hk : ∀ y, GdS s.length y → RwS s.length y.1 (w y)) (k : Nat) (IH : OnC s bol mn mx nn set kids w a k) (n : Int) (hn : 0 ≤ n ∧ n + k < 1000) (hnm : mx < 0 ∨ n < mx) (x : St) (hx : GdS s.length x) (hxa : a ≤ x.1) (hmu : muF mn mx s.length n x < k + 1) (l : List St) (hll : l.length ≤ 16000000) (hl : ∀ y ∈ l, GdS s.length y ∧ x.1 ≤ y.1) :
    ∀ (j i : Nat) (met : List Turn) (out : List St), i + j = l.length → out ≠ [] → RwS s.length a out →
    lim Try.prog cfg (.loop 88 5 (wae 0) (SE (EJ 92 G0) [(54, .int .i64 i), (53, .int .i64 l.length), (52, FL l.length (stsC l)), (5, .pointer (some ⟨5, 0, none⟩)), (1, .int .i64 n), (0, .pointer (some ⟨0, 0, none⟩))])) (HP (reC s bol mn mx nn set kids met out ++ [X (stC x) 113 0 true])) = some (.code (.exit 0) (SE (EJ 92 G0) [(5, .pointer (some ⟨5, 0, none⟩)), (1, .int .i64 n), (0, .pointer (some ⟨0, 0, none⟩))]), HP (reC s bol mn mx nn set kids (wrt w mn mx k n x (l.drop i) (met, out)).1 (wrt w mn mx k n x (l.drop i) (met, out)).2 ++ [X (stC x) 113 0 true])) := by
  intro j
  induction j with
  | zero =>
    intro i met out hi ho hr
    rw [List.drop_of_length_le (by omega)]
    refine ww wcd ?_
    unfold wfd
    clear IH hk hl
    (repeat' (first | (simp -implicitDefEqProofs (maxSteps := 2000000) (disch := first | with_reducible assumption | omega | (simp only [zS, zA, Nat.reduceEqDiff, Nat.reduceLT, Nat.reduceLeDiff, Nat.reduceAdd, Nat.reduceSub, reduceCtorEq, wab, zD] <;> omega) | fail) only [zS, argl, insA, Go.Den.wm, wo, wu, looks, wfb, web, idOf, riA, Nat.reduceLeDiff, Nat.reduceLT, Nat.reduceEqDiff, Nat.reduceDiv, Nat.reduceMod, Int.reduceLT, Int.reduceLE, Int.reduceEq, Int.reduceNeg, Int.reduceToNat, Int.reduceSub, Int.reduceMul, Int.reduceNe, Nat.reduceAdd, Nat.reduceMul, Nat.reduceSub, Int.reduceAdd, reduceCtorEq, Go.Den.wh, kK, wcb, wab, *, zT]) | (with_reducible (first | apply z1 | apply z2 | apply z3 | apply z4) <;> intro hq <;> (try simp only [zH] at hq) <;> (try (exfalso; omega)))))
    all_goals rfl
  | succ j ih =>
    intro i met out hi ho hr
    rw [wqg l (by omega), wjl]
    have hy := hl (l.getD i St.zero) (by rw [List.getD_eq_getElem?_getD, List.getElem?_eq_getElem (by omega)]; exact List.getElem_mem _)
    refine ww wcd ?_
    unfold wfd
    by_cases hc : (l.getD i St.zero).1 ≠ x.1 ∨ n < mn
    · have hmu2 : muF mn mx s.length (n + 1) (l.getD i St.zero) < k := by
        have h1 := hy.1.hi
        have h2 := hx.hi
        unfold muF at hmu ⊢
        split at hmu
        · rw [if_pos (by omega)]; omega
        · rw [if_neg (by omega)]; omega
      have h1 := IH (n + 1) (l.getD i St.zero) met out (by omega) (by omega) hy.1 (by omega) hmu2 ho hr
      have h2 := ih (i + 1) (onF w mn mx k (n + 1) (l.getD i St.zero) (met, out)).1 (onF w mn mx k (n + 1) (l.getD i St.zero) (met, out)).2 (by omega) (on_ne _ _ _ _ ho) (wigb (fun y hy _ => hk y hy) _ _ _ _ hy.1 (by omega) hr)
      rw [if_pos hc]
      clear IH ih hk
      by_cases hc1 : (l.getD i St.zero).1 = x.1
      · have hc2 : n < mn := by omega
        (repeat' (first | (simp -implicitDefEqProofs (maxSteps := 2000000) (disch := first | with_reducible assumption | omega | (simp only [zS, zA, Nat.reduceEqDiff, Nat.reduceLT, Nat.reduceLeDiff, Nat.reduceAdd, Nat.reduceSub, reduceCtorEq, wab, zD] <;> omega) | fail) only [zS, argl, insA, Go.Den.wm, wo, wu, looks, wfb, web, idOf, riA, Nat.reduceLeDiff, Nat.reduceLT, Nat.reduceEqDiff, Nat.reduceDiv, Nat.reduceMod, Int.reduceLT, Int.reduceLE, Int.reduceEq, Int.reduceNeg, Int.reduceToNat, Int.reduceSub, Int.reduceMul, Int.reduceNe, Nat.reduceAdd, Nat.reduceMul, Nat.reduceSub, Int.reduceAdd, reduceCtorEq, Go.Den.wh, kK, wcb, wab, wkb, wwb, *, zT]) | (with_reducible (first | apply z1 | apply z2 | apply z3 | apply z4) <;> intro hq <;> (try simp only [zH] at hq) <;> (try (exfalso; omega)))))
        exact h2
      · (repeat' (first | (simp -implicitDefEqProofs (maxSteps := 2000000) (disch := first | with_reducible assumption | omega | (simp only [zS, zA, Nat.reduceEqDiff, Nat.reduceLT, Nat.reduceLeDiff, Nat.reduceAdd, Nat.reduceSub, reduceCtorEq, wab, zD] <;> omega) | fail) only [zS, argl, insA, Go.Den.wm, wo, wu, looks, wfb, web, idOf, riA, Nat.reduceLeDiff, Nat.reduceLT, Nat.reduceEqDiff, Nat.reduceDiv, Nat.reduceMod, Int.reduceLT, Int.reduceLE, Int.reduceEq, Int.reduceNeg, Int.reduceToNat, Int.reduceSub, Int.reduceMul, Int.reduceNe, Nat.reduceAdd, Nat.reduceMul, Nat.reduceSub, Int.reduceAdd, reduceCtorEq, Go.Den.wh, kK, wcb, wab, wkb, wwb, *, zT]) | (with_reducible (first | apply z1 | apply z2 | apply z3 | apply z4) <;> intro hq <;> (try simp only [zH] at hq) <;> (try (exfalso; omega)))))
        exact h2
    · have h2 := ih (i + 1) met out (by omega) ho hr
      rw [if_neg hc]
      have hc1 : (l.getD i St.zero).1 = x.1 := by omega
      have hc2 : ¬ n < mn := by omega
      clear IH ih hk
      (repeat' (first | (simp -implicitDefEqProofs (maxSteps := 2000000) (disch := first | with_reducible assumption | omega | (simp only [zS, zA, Nat.reduceEqDiff, Nat.reduceLT, Nat.reduceLeDiff, Nat.reduceAdd, Nat.reduceSub, reduceCtorEq, wab, zD] <;> omega) | fail) only [zS, argl, insA, Go.Den.wm, wo, wu, looks, wfb, web, idOf, riA, Nat.reduceLeDiff, Nat.reduceLT, Nat.reduceEqDiff, Nat.reduceDiv, Nat.reduceMod, Int.reduceLT, Int.reduceLE, Int.reduceEq, Int.reduceNeg, Int.reduceToNat, Int.reduceSub, Int.reduceMul, Int.reduceNe, Nat.reduceAdd, Nat.reduceMul, Nat.reduceSub, Int.reduceAdd, reduceCtorEq, Go.Den.wh, kK, wcb, wab, wkb, wwb, *, zT]) | (with_reducible (first | apply z1 | apply z2 | apply z3 | apply z4) <;> intro hq <;> (try simp only [zH] at hq) <;> (try (exfalso; omega)))))
      exact h2
end
end
end Go.Proofs.Ytdbhfmdndiphcaa
namespace Go.Proofs.Ytdbhfmdndiphcaa
set_option linter.unusedVariables false
set_option linter.unusedSimpArgs false
open Go.Den
noncomputable section
theorem winb {w : St → List St} {mn mx : Int} {k : Nat} {n : Int} {x : St} : ∀ (l : List St) (b : List Turn × List St), b.2 ≠ [] → (wrt w mn mx k n x l b).2 ≠ [] := by
  intro l
  induction l with
  | nil => intro b hb; exact hb
  | cons y l ih =>
    intro b hb
    rw [wjl]
    refine ih _ ?_
    split
    · exact on_ne _ _ _ _ hb
    · exact hb
theorem wkgb {len : Nat} {a : Int} {w : St → List St} {mn mx : Int} (hw : ∀ x, GdS len x → RwS len x.1 (w x)) {k : Nat} {n : Int} {x : St} : ∀ (l : List St) (b : List Turn × List St), (∀ y ∈ l, GdS len y ∧ a ≤ y.1) → RwS len a b.2 → RwS len a (wrt w mn mx k n x l b).2 := by
  intro l
  induction l with
  | nil => intro b _ hb; exact hb
  | cons y l ih =>
    intro b hl hb
    rw [wjl]
    have hy := hl y (List.mem_cons_self ..)
    refine ih _ (fun z hz => hl z (List.mem_cons_of_mem _ hz)) ?_
    split
    · exact wigb (fun y hy _ => hw y hy) _ _ _ _ hy.1 hy.2 hb
    · exact hb
section
variable (s : List UInt8) (bol : Bool) (mn mx nn : Int) (set : BitVec 256) (kids : List Rx)
abbrev feN (met : List Turn) (x : St) : List ABlk := [repB s bol mn mx nn set kids, X [.slice none 0 0, .map (some 3)] 158 0 false, .map (setK trC met), .map [], X (stC x) 113 0 true]
abbrev feE (met : List Turn) (out : List St) (x : St) : List ABlk := [repB s bol mn mx nn set kids, X [FO 5 out.length (stsC out), .map (some 3)] 158 0 false, .map (setK trC met), .map (setK stC out), X (stC x) 113 0 true, .tok out.length 113 9]
def reO (p : List Turn × List St) : List ABlk := if p.2 = [] then reN s bol mn mx nn set kids p.1 else reE s bol mn mx nn set kids p.1 p.2
def feO (p : List Turn × List St) (x : St) : List ABlk := if p.2 = [] then feN s bol mn mx nn set kids p.1 x else feE s bol mn mx nn set kids p.1 p.2 x
def OnN (w : St → List St) (a : Int) (k : Nat) : Prop := ∀ (n : Int) (x : St) (met : List Turn), 0 ≤ n → n + k ≤ 1000 → GdS s.length x → a ≤ x.1 → muF mn mx s.length n x < k →
  lim Try.prog cfg (.call 88 [.pointer (some ⟨0, 0, none⟩), .int .i64 n, .agg ⟨stC x⟩]) (HP (reN s bol mn mx nn set kids met)) = some (.val (.tuple ⟨[]⟩), HP (reO s bol mn mx nn set kids (onF w mn mx k n x (met, []))))
theorem wncc {mn mx : Int} {len : Nat} {n : Int} {x y : St} {k : Nat} (hx : GdS len x) (hy : GdS len y) (hxy : x.1 ≤ y.1) (hnm : mx < 0 ∨ n < mx) (hc : y.1 ≠ x.1 ∨ n < mn) (hmu : muF mn mx len n x < k + 1) : muF mn mx len (n + 1) y < k := by
  have h1 := hy.hi
  have h2 := hx.hi
  unfold muF at hmu ⊢
  split at hmu
  · rw [if_pos (by omega)]; omega
  · rw [if_neg (by omega)]; omega
set_option maxHeartbeats 4000000 in
theorem on_loopE (hs : s.length ≤ 12) (hmn : 0 ≤ mn ∧ mn ≤ 20) (hmx : mx ≤ 20) (w : St → List St) (a : Int) (hk : ∀ y, GdS s.length y → RwS s.length y.1 (w y)) (k : Nat) (IH : OnC s bol mn mx nn set kids w a k) (n : Int) (hn : 0 ≤ n ∧ n + k < 1000) (hnm : mx < 0 ∨ n < mx) (x : St) (hx : GdS s.length x) (hxa : a ≤ x.1) (hmu : muF mn mx s.length n x < k + 1) (l : List St) (hll : l.length ≤ 16000000) (hl : ∀ y ∈ l, GdS s.length y ∧ x.1 ≤ y.1) :
    ∀ (j i : Nat) (met : List Turn) (out : List St), i + j = l.length → out ≠ [] → RwS s.length a out →
    lim Try.prog cfg (.loop 88 4 (wae 0) (SE (EJ 92 G0) [(54, .int .i64 i), (53, .int .i64 l.length), (52, FL l.length (stsC l)), (5, .pointer (some ⟨4, 0, none⟩)), (1, .int .i64 n), (0, .pointer (some ⟨0, 0, none⟩))])) (HP (feE s bol mn mx nn set kids met out x)) = some (.code (.exit 0) (SE (EJ 92 G0) [(5, .pointer (some ⟨4, 0, none⟩)), (1, .int .i64 n), (0, .pointer (some ⟨0, 0, none⟩))]), HP (feE s bol mn mx nn set kids (wrt w mn mx k n x (l.drop i) (met, out)).1 (wrt w mn mx k n x (l.drop i) (met, out)).2 x)) := by
  intro j
  induction j with
  | zero =>
    intro i met out hi ho hr
    rw [List.drop_of_length_le (by omega)]
    refine ww wcd ?_
    unfold wfd
    clear IH hk hl
    (repeat' (first | (simp -implicitDefEqProofs (maxSteps := 2000000) (disch := first | with_reducible assumption | omega | (simp only [zS, zA, Nat.reduceEqDiff, Nat.reduceLT, Nat.reduceLeDiff, Nat.reduceAdd, Nat.reduceSub, reduceCtorEq, wab, zD] <;> omega) | fail) only [zS, argl, insA, Go.Den.wm, wo, wu, looks, wfb, web, idOf, riA, Nat.reduceLeDiff, Nat.reduceLT, Nat.reduceEqDiff, Nat.reduceDiv, Nat.reduceMod, Int.reduceLT, Int.reduceLE, Int.reduceEq, Int.reduceNeg, Int.reduceToNat, Int.reduceSub, Int.reduceMul, Int.reduceNe, Nat.reduceAdd, Nat.reduceMul, Nat.reduceSub, Int.reduceAdd, reduceCtorEq, Go.Den.wh, kK, wcb, wab, *, zT]) | (with_reducible (first | apply z1 | apply z2 | apply z3 | apply z4) <;> intro hq <;> (try simp only [zH] at hq) <;> (try (exfalso; omega)))))
    all_goals rfl
  | succ j ih =>
    intro i met out hi ho hr
    rw [wqg l (by omega), wjl]
    have hy := hl (l.getD i St.zero) (by rw [List.getD_eq_getElem?_getD, List.getElem?_eq_getElem (by omega)]; exact List.getElem_mem _)
    refine ww wcd ?_
    unfold wfd
    by_cases hc : (l.getD i St.zero).1 ≠ x.1 ∨ n < mn
    · have h1 := IH (n + 1) (l.getD i St.zero) met out (by omega) (by omega) hy.1 (by omega) (wncc hx hy.1 hy.2 hnm hc hmu) ho hr
      have h2 := ih (i + 1) (onF w mn mx k (n + 1) (l.getD i St.zero) (met, out)).1 (onF w mn mx k (n + 1) (l.getD i St.zero) (met, out)).2 (by omega) (on_ne _ _ _ _ ho) (wigb (fun y hy _ => hk y hy) _ _ _ _ hy.1 (by omega) hr)
      rw [if_pos hc]
      clear IH ih hk
      by_cases hc1 : (l.getD i St.zero).1 = x.1
      · have hc2 : n < mn := by omega
        (repeat' (first | (simp -implicitDefEqProofs (maxSteps := 2000000) (disch := first | with_reducible assumption | omega | (simp only [zS, zA, Nat.reduceEqDiff, Nat.reduceLT, Nat.reduceLeDiff, Nat.reduceAdd, Nat.reduceSub, reduceCtorEq, wab, zD] <;> omega) | fail) only [zS, argl, insA, Go.Den.wm, wo, wu, looks, wfb, web, idOf, riA, Nat.reduceLeDiff, Nat.reduceLT, Nat.reduceEqDiff, Nat.reduceDiv, Nat.reduceMod, Int.reduceLT, Int.reduceLE, Int.reduceEq, Int.reduceNeg, Int.reduceToNat, Int.reduceSub, Int.reduceMul, Int.reduceNe, Nat.reduceAdd, Nat.reduceMul, Nat.reduceSub, Int.reduceAdd, reduceCtorEq, Go.Den.wh, kK, wcb, wab, wkb, wwb, *, zT]) | (with_reducible (first | apply z1 | apply z2 | apply z3 | apply z4) <;> intro hq <;> (try simp only [zH] at hq) <;> (try (exfalso; omega)))))
        exact h2
      · (repeat' (first | (simp -implicitDefEqProofs (maxSteps := 2000000) (disch := first | with_reducible assumption | omega | (simp only [zS, zA, Nat.reduceEqDiff, Nat.reduceLT, Nat.reduceLeDiff, Nat.reduceAdd, Nat.reduceSub, reduceCtorEq, wab, zD] <;> omega) | fail) only [zS, argl, insA, Go.Den.wm, wo, wu, looks, wfb, web, idOf, riA, Nat.reduceLeDiff, Nat.reduceLT, Nat.reduceEqDiff, Nat.reduceDiv, Nat.reduceMod, Int.reduceLT, Int.reduceLE, Int.reduceEq, Int.reduceNeg, Int.reduceToNat, Int.reduceSub, Int.reduceMul, Int.reduceNe, Nat.reduceAdd, Nat.reduceMul, Nat.reduceSub, Int.reduceAdd, reduceCtorEq, Go.Den.wh, kK, wcb, wab, wkb, wwb, *, zT]) | (with_reducible (first | apply z1 | apply z2 | apply z3 | apply z4) <;> intro hq <;> (try simp only [zH] at hq) <;> (try (exfalso; omega)))))
        exact h2
    · have h2 := ih (i + 1) met out (by omega) ho hr
      rw [if_neg hc]
      have hc1 : (l.getD i St.zero).1 = x.1 := by omega
      have hc2 : ¬ n < mn := by omega
      clear IH ih hk
      (repeat' (first | (simp -implicitDefEqProofs (maxSteps := 2000000) (disch := first | with_reducible assumption | omega | (simp only [zS, zA, Nat.reduceEqDiff, Nat.reduceLT, Nat.reduceLeDiff, Nat.reduceAdd, Nat.reduceSub, reduceCtorEq, wab, zD] <;> omega) | fail) only [zS, argl, insA, Go.Den.wm, wo, wu, looks, wfb, web, idOf, riA, Nat.reduceLeDiff, Nat.reduceLT, Nat.reduceEqDiff, Nat.reduceDiv, Nat.reduceMod, Int.reduceLT, Int.reduceLE, Int.reduceEq, Int.reduceNeg, Int.reduceToNat, Int.reduceSub, Int.reduceMul, Int.reduceNe, Nat.reduceAdd, Nat.reduceMul, Nat.reduceSub, Int.reduceAdd, reduceCtorEq, Go.Den.wh, kK, wcb, wab, wkb, wwb, *, zT]) | (with_reducible (first | apply z1 | apply z2 | apply z3 | apply z4) <;> intro hq <;> (try simp only [zH] at hq) <;> (try (exfalso; omega)))))
      exact h2
set_option maxHeartbeats 4000000 in
theorem on_loopN (hs : s.length ≤ 12) (hmn : 0 ≤ mn ∧ mn ≤ 20) (hmx : mx ≤ 20) (w : St → List St) (a : Int) (hk : ∀ y, GdS s.length y → RwS s.length y.1 (w y)) (k : Nat) (IHC : OnC s bol mn mx nn set kids w a k) (IH : OnN s bol mn mx nn set kids w a k) (n : Int) (hn : 0 ≤ n ∧ n + k < 1000) (hnm : mx < 0 ∨ n < mx) (x : St) (hx : GdS s.length x) (hxa : a ≤ x.1) (hmu : muF mn mx s.length n x < k + 1) (l : List St) (hll : l.length ≤ 16000000) (hl : ∀ y ∈ l, GdS s.length y ∧ x.1 ≤ y.1) :
    ∀ (j i : Nat) (met : List Turn), i + j = l.length →
    lim Try.prog cfg (.loop 88 4 (wae 0) (SE (EJ 92 G0) [(54, .int .i64 i), (53, .int .i64 l.length), (52, FL l.length (stsC l)), (5, .pointer (some ⟨4, 0, none⟩)), (1, .int .i64 n), (0, .pointer (some ⟨0, 0, none⟩))])) (HP (feN s bol mn mx nn set kids met x)) = some (.code (.exit 0) (SE (EJ 92 G0) [(5, .pointer (some ⟨4, 0, none⟩)), (1, .int .i64 n), (0, .pointer (some ⟨0, 0, none⟩))]), HP (feO s bol mn mx nn set kids (wrt w mn mx k n x (l.drop i) (met, [])) x)) := by
  intro j
  induction j with
  | zero =>
    intro i met hi
    rw [List.drop_of_length_le (by omega)]
    refine ww wcd ?_
    unfold wfd
    clear IH IHC hk hl
    (repeat' (first | (simp -implicitDefEqProofs (maxSteps := 2000000) (disch := first | with_reducible assumption | omega | (simp only [zS, zA, Nat.reduceEqDiff, Nat.reduceLT, Nat.reduceLeDiff, Nat.reduceAdd, Nat.reduceSub, reduceCtorEq, wab, zD] <;> omega) | fail) only [zS, argl, insA, Go.Den.wm, wo, wu, looks, wfb, web, idOf, riA, Nat.reduceLeDiff, Nat.reduceLT, Nat.reduceEqDiff, Nat.reduceDiv, Nat.reduceMod, Int.reduceLT, Int.reduceLE, Int.reduceEq, Int.reduceNeg, Int.reduceToNat, Int.reduceSub, Int.reduceMul, Int.reduceNe, Nat.reduceAdd, Nat.reduceMul, Nat.reduceSub, Int.reduceAdd, reduceCtorEq, Go.Den.wh, kK, wcb, wab, *, zT]) | (with_reducible (first | apply z1 | apply z2 | apply z3 | apply z4) <;> intro hq <;> (try simp only [zH] at hq) <;> (try (exfalso; omega)))))
    all_goals rfl
  | succ j ih =>
    intro i met hi
    rw [wqg l (by omega), wjl]
    have hy := hl (l.getD i St.zero) (by rw [List.getD_eq_getElem?_getD, List.getElem?_eq_getElem (by omega)]; exact List.getElem_mem _)
    refine ww wcd ?_
    unfold wfd
    by_cases hc : (l.getD i St.zero).1 ≠ x.1 ∨ n < mn
    · have h1 := IH (n + 1) (l.getD i St.zero) met (by omega) (by omega) hy.1 (by omega) (wncc hx hy.1 hy.2 hnm hc hmu)
      rw [if_pos hc]
      have hr := wigb (a0 := a) (mn := mn) (mx := mx) (fun y hy _ => hk y hy) k (n + 1) (l.getD i St.zero) (met, []) hy.1 (by omega) .nil
      rcases hq : onF w mn mx k (n + 1) (l.getD i St.zero) (met, []) with ⟨met2, out2⟩
      rw [hq] at h1 hr
      unfold reO at h1
      by_cases ho : out2 = []
      · subst ho
        rw [if_pos rfl] at h1
        have h2 := ih (i + 1) met2 (by omega)
        clear IH IHC ih hk
        by_cases hc1 : (l.getD i St.zero).1 = x.1
        · have hc2 : n < mn := by omega
          (repeat' (first | (simp -implicitDefEqProofs (maxSteps := 2000000) (disch := first | with_reducible assumption | omega | (simp only [zS, zA, Nat.reduceEqDiff, Nat.reduceLT, Nat.reduceLeDiff, Nat.reduceAdd, Nat.reduceSub, reduceCtorEq, wab, zD] <;> omega) | fail) only [zS, argl, insA, Go.Den.wm, wo, wu, looks, wfb, web, idOf, riA, Nat.reduceLeDiff, Nat.reduceLT, Nat.reduceEqDiff, Nat.reduceDiv, Nat.reduceMod, Int.reduceLT, Int.reduceLE, Int.reduceEq, Int.reduceNeg, Int.reduceToNat, Int.reduceSub, Int.reduceMul, Int.reduceNe, Nat.reduceAdd, Nat.reduceMul, Nat.reduceSub, Int.reduceAdd, reduceCtorEq, Go.Den.wh, kK, wcb, wab, wkb, wwb, *, zT]) | (with_reducible (first | apply z1 | apply z2 | apply z3 | apply z4) <;> intro hq <;> (try simp only [zH] at hq) <;> (try (exfalso; omega)))))
          exact h2
        · (repeat' (first | (simp -implicitDefEqProofs (maxSteps := 2000000) (disch := first | with_reducible assumption | omega | (simp only [zS, zA, Nat.reduceEqDiff, Nat.reduceLT, Nat.reduceLeDiff, Nat.reduceAdd, Nat.reduceSub, reduceCtorEq, wab, zD] <;> omega) | fail) only [zS, argl, insA, Go.Den.wm, wo, wu, looks, wfb, web, idOf, riA, Nat.reduceLeDiff, Nat.reduceLT, Nat.reduceEqDiff, Nat.reduceDiv, Nat.reduceMod, Int.reduceLT, Int.reduceLE, Int.reduceEq, Int.reduceNeg, Int.reduceToNat, Int.reduceSub, Int.reduceMul, Int.reduceNe, Nat.reduceAdd, Nat.reduceMul, Nat.reduceSub, Int.reduceAdd, reduceCtorEq, Go.Den.wh, kK, wcb, wab, wkb, wwb, *, zT]) | (with_reducible (first | apply z1 | apply z2 | apply z3 | apply z4) <;> intro hq <;> (try simp only [zH] at hq) <;> (try (exfalso; omega)))))
          exact h2
      · rw [if_neg ho] at h1
        have h2 := on_loopE s bol mn mx nn set kids hs hmn hmx w a hk k IHC n hn hnm x hx hxa hmu l hll hl j (i + 1) met2 out2 (by omega) ho hr
        rw [feO, if_neg (winb _ _ ho)]
        clear IH IHC ih hk
        by_cases hc1 : (l.getD i St.zero).1 = x.1
        · have hc2 : n < mn := by omega
          (repeat' (first | (simp -implicitDefEqProofs (maxSteps := 2000000) (disch := first | with_reducible assumption | omega | (simp only [zS, zA, Nat.reduceEqDiff, Nat.reduceLT, Nat.reduceLeDiff, Nat.reduceAdd, Nat.reduceSub, reduceCtorEq, wab, zD] <;> omega) | fail) only [zS, argl, insA, Go.Den.wm, wo, wu, looks, wfb, web, idOf, riA, Nat.reduceLeDiff, Nat.reduceLT, Nat.reduceEqDiff, Nat.reduceDiv, Nat.reduceMod, Int.reduceLT, Int.reduceLE, Int.reduceEq, Int.reduceNeg, Int.reduceToNat, Int.reduceSub, Int.reduceMul, Int.reduceNe, Nat.reduceAdd, Nat.reduceMul, Nat.reduceSub, Int.reduceAdd, reduceCtorEq, Go.Den.wh, kK, wcb, wab, wkb, wwb, *, zT]) | (with_reducible (first | apply z1 | apply z2 | apply z3 | apply z4) <;> intro hq <;> (try simp only [zH] at hq) <;> (try (exfalso; omega)))))
          exact h2
        · (repeat' (first | (simp -implicitDefEqProofs (maxSteps := 2000000) (disch := first | with_reducible assumption | omega | (simp only [zS, zA, Nat.reduceEqDiff, Nat.reduceLT, Nat.reduceLeDiff, Nat.reduceAdd, Nat.reduceSub, reduceCtorEq, wab, zD] <;> omega) | fail) only [zS, argl, insA, Go.Den.wm, wo, wu, looks, wfb, web, idOf, riA, Nat.reduceLeDiff, Nat.reduceLT, Nat.reduceEqDiff, Nat.reduceDiv, Nat.reduceMod, Int.reduceLT, Int.reduceLE, Int.reduceEq, Int.reduceNeg, Int.reduceToNat, Int.reduceSub, Int.reduceMul, Int.reduceNe, Nat.reduceAdd, Nat.reduceMul, Nat.reduceSub, Int.reduceAdd, reduceCtorEq, Go.Den.wh, kK, wcb, wab, wkb, wwb, *, zT]) | (with_reducible (first | apply z1 | apply z2 | apply z3 | apply z4) <;> intro hq <;> (try simp only [zH] at hq) <;> (try (exfalso; omega)))))
          exact h2
    · have h2 := ih (i + 1) met (by omega)
      rw [if_neg hc]
      have hc1 : (l.getD i St.zero).1 = x.1 := by omega
      have hc2 : ¬ n < mn := by omega
      clear IH IHC ih hk
      (repeat' (first | (simp -implicitDefEqProofs (maxSteps := 2000000) (disch := first | with_reducible assumption | omega | (simp only [zS, zA, Nat.reduceEqDiff, Nat.reduceLT, Nat.reduceLeDiff, Nat.reduceAdd, Nat.reduceSub, reduceCtorEq, wab, zD] <;> omega) | fail) only [zS, argl, insA, Go.Den.wm, wo, wu, looks, wfb, web, idOf, riA, Nat.reduceLeDiff, Nat.reduceLT, Nat.reduceEqDiff, Nat.reduceDiv, Nat.reduceMod, Int.reduceLT, Int.reduceLE, Int.reduceEq, Int.reduceNeg, Int.reduceToNat, Int.reduceSub, Int.reduceMul, Int.reduceNe, Nat.reduceAdd, Nat.reduceMul, Nat.reduceSub, Int.reduceAdd, reduceCtorEq, Go.Den.wh, kK, wcb, wab, wkb, wwb, *, zT]) | (with_reducible (first | apply z1 | apply z2 | apply z3 | apply z4) <;> intro hq <;> (try simp only [zH] at hq) <;> (try (exfalso; omega)))))
      exact h2
end
end
end Go.Proofs.Ytdbhfmdndiphcaa
namespace Go.Proofs.Ytdbhfmdndiphcaa
set_option linter.unusedVariables false
set_option linter.unusedSimpArgs false
open Go.Den
noncomputable section
section
variable (s : List UInt8) (bol : Bool) (mn mx nn : Int) (set : BitVec 256) (kids : List Rx)
theorem wocc {w : St → List St} {mn mx : Int} {k : Nat} {n : Int} {x : St} {a : List Turn × List St} (h : keyF mn mx n x ∈ a.1) : onF w mn mx (k + 1) n x a = a := by
  rw [onF, if_pos h]
theorem wkcb {w : St → List St} {mn mx : Int} {k : Nat} {n : Int} {x : St} {met : List Turn} {out : List St} (h : keyF mn mx n x ∉ met) (b : List Turn × List St) (hb : b = if mx < 0 ∨ n < mx then wrt w mn mx k n x (w x) (met ++ [keyF mn mx n x], out) else (met ++ [keyF mn mx n x], out)) :
    onF w mn mx (k + 1) n x (met, out) = if n ≥ mn then (b.1, addF b.2 [x]) else b := by
  rw [onF, if_neg h, hb]
  rfl
set_option maxHeartbeats 4000000 in
theorem ev_on_C (hs : s.length ≤ 12) (hmn : 0 ≤ mn ∧ mn ≤ 20) (hmx : mx ≤ 20) (w : St → List St) (a : Int) (hk : KidOk s bol kids w) (k : Nat) (IH : OnC s bol mn mx nn set kids w a k) : OnC s bol mn mx nn set kids w a (k + 1) := by
  intro n x met out hn hn2 hx hxa hmu ho hr
  obtain ⟨kid, k1, k2, k3⟩ := hk
  have hw := fun y hy => (k3 y hy).1
  have ⟨r1, r2⟩ := k3 x hx
  have r3 := row_len r1 hs
  have key := ev_key_C s bol mn mx nn set kids
  refine wjc hc wyi (Nat.le_of_ble_eq_true rfl) (Nat.le_of_ble_eq_true rfl) ?_
  unfold wai
  by_cases hm : keyF mn mx n x ∈ met
  · rw [wocc hm]
    clear IH k3 hw r1 r2
    (repeat' (first | (simp -implicitDefEqProofs (maxSteps := 2000000) (disch := first | with_reducible assumption | omega | (simp only [zS, zA, Nat.reduceEqDiff, Nat.reduceLT, Nat.reduceLeDiff, Nat.reduceAdd, Nat.reduceSub, reduceCtorEq, wab, wof, wkb, wwb, zD] <;> omega) | fail) only [zS, argl, insA, Go.Den.wm, wo, wu, looks, wfb, web, idOf, riA, Nat.reduceLeDiff, Nat.reduceLT, Nat.reduceEqDiff, Nat.reduceDiv, Nat.reduceMod, Int.reduceLT, Int.reduceLE, Int.reduceEq, Int.reduceNeg, Int.reduceToNat, Int.reduceSub, Int.reduceMul, Int.reduceNe, Nat.reduceAdd, Nat.reduceMul, Nat.reduceSub, Int.reduceAdd, reduceCtorEq, Go.Den.wh, kK, wab, wkb, wwb, wod wwg, wbg, wof, *, zT]) | (with_reducible (first | apply z1 | apply z2 | apply z3 | apply z4) <;> intro hq <;> (try simp only [zH] at hq) <;> (try (exfalso; omega))) | (with_reducible apply z5; (case hl => (repeat (first | exact .nil | with_reducible apply z6 | with_reducible apply z7))); (case h => kernel_rfl))))
  · by_cases hnm : mx < 0 ∨ n < mx
    · have hb := wkcb (w := w) (k := k) (out := out) hm _ rfl
      rw [if_pos hnm] at hb
      have hl := on_loopC s bol mn mx nn set kids hs hmn hmx w a hw k IH n ⟨hn, by omega⟩ hnm x hx hxa hmu (w x) (by omega) r1.good (w x).length 0 (met ++ [keyF mn mx n x]) out (by omega) ho hr
      rw [List.drop_zero, show ((0 : Nat) : Int) = 0 from rfl] at hl
      simp only [List.cons_append, List.nil_append] at hl
      have hbr := wkgb (a := a) (mn := mn) (mx := mx) hw (k := k) (n := n) (x := x) (w x) (met ++ [keyF mn mx n x], out) (fun y hy => ⟨(r1.good y hy).1, by have := (r1.good y hy).2; omega⟩) hr
      have hbn := winb (w := w) (mn := mn) (mx := mx) (k := k) (n := n) (x := x) (w x) (met ++ [keyF mn mx n x], out) ho
      generalize wrt w mn mx k n x (w x) (met ++ [keyF mn mx n x], out) = b at hb hl hbr hbn
      obtain ⟨bm, bo⟩ := b
      simp only at hb hl hbr hbn
      rw [hb]
      have hadd := wxo bo [x] hbn (by simp) (by have := row_len (hbr.add (xs := [x]) (fun y hy => by rw [List.mem_singleton] at hy; subst hy; exact ⟨hx, hxa⟩)) hs; omega)
      rw [wdg, show [x].length = 1 from rfl] at hadd
      clear IH k3 hw r1 hb hbr
      by_cases hge : n ≥ mn
      · rw [if_pos hge]
        by_cases hmx0 : mx < 0
        · (repeat' (first | (simp -implicitDefEqProofs (maxSteps := 2000000) (disch := first | with_reducible assumption | omega | (simp only [zS, zA, Nat.reduceEqDiff, Nat.reduceLT, Nat.reduceLeDiff, Nat.reduceAdd, Nat.reduceSub, reduceCtorEq, wab, wof, wkb, wwb, zD] <;> omega) | fail) only [zS, argl, insA, Go.Den.wm, wo, wu, looks, wfb, web, idOf, riA, Nat.reduceLeDiff, Nat.reduceLT, Nat.reduceEqDiff, Nat.reduceDiv, Nat.reduceMod, Int.reduceLT, Int.reduceLE, Int.reduceEq, Int.reduceNeg, Int.reduceToNat, Int.reduceSub, Int.reduceMul, Int.reduceNe, Nat.reduceAdd, Nat.reduceMul, Nat.reduceSub, Int.reduceAdd, reduceCtorEq, Go.Den.wh, kK, wcb, wab, wkb, wwb, wod wwg, wmf wwg, wbg, wof, *, zT]) | (with_reducible (first | apply z1 | apply z2 | apply z3 | apply z4) <;> intro hq <;> (try simp only [zH] at hq) <;> (try (exfalso; omega))) | (with_reducible apply z5; (case hl => (repeat (first | exact .nil | with_reducible apply z6 | with_reducible apply z7))); (case h => kernel_rfl))))
        · have hnm2 : n < mx := by omega
          (repeat' (first | (simp -implicitDefEqProofs (maxSteps := 2000000) (disch := first | with_reducible assumption | omega | (simp only [zS, zA, Nat.reduceEqDiff, Nat.reduceLT, Nat.reduceLeDiff, Nat.reduceAdd, Nat.reduceSub, reduceCtorEq, wab, wof, wkb, wwb, zD] <;> omega) | fail) only [zS, argl, insA, Go.Den.wm, wo, wu, looks, wfb, web, idOf, riA, Nat.reduceLeDiff, Nat.reduceLT, Nat.reduceEqDiff, Nat.reduceDiv, Nat.reduceMod, Int.reduceLT, Int.reduceLE, Int.reduceEq, Int.reduceNeg, Int.reduceToNat, Int.reduceSub, Int.reduceMul, Int.reduceNe, Nat.reduceAdd, Nat.reduceMul, Nat.reduceSub, Int.reduceAdd, reduceCtorEq, Go.Den.wh, kK, wcb, wab, wkb, wwb, wod wwg, wmf wwg, wbg, wof, *, zT]) | (with_reducible (first | apply z1 | apply z2 | apply z3 | apply z4) <;> intro hq <;> (try simp only [zH] at hq) <;> (try (exfalso; omega))) | (with_reducible apply z5; (case hl => (repeat (first | exact .nil | with_reducible apply z6 | with_reducible apply z7))); (case h => kernel_rfl))))
      · rw [if_neg hge]
        by_cases hmx0 : mx < 0
        · (repeat' (first | (simp -implicitDefEqProofs (maxSteps := 2000000) (disch := first | with_reducible assumption | omega | (simp only [zS, zA, Nat.reduceEqDiff, Nat.reduceLT, Nat.reduceLeDiff, Nat.reduceAdd, Nat.reduceSub, reduceCtorEq, wab, wof, wkb, wwb, zD] <;> omega) | fail) only [zS, argl, insA, Go.Den.wm, wo, wu, looks, wfb, web, idOf, riA, Nat.reduceLeDiff, Nat.reduceLT, Nat.reduceEqDiff, Nat.reduceDiv, Nat.reduceMod, Int.reduceLT, Int.reduceLE, Int.reduceEq, Int.reduceNeg, Int.reduceToNat, Int.reduceSub, Int.reduceMul, Int.reduceNe, Nat.reduceAdd, Nat.reduceMul, Nat.reduceSub, Int.reduceAdd, reduceCtorEq, Go.Den.wh, kK, wcb, wab, wkb, wwb, wod wwg, wmf wwg, wbg, wof, *, zT]) | (with_reducible (first | apply z1 | apply z2 | apply z3 | apply z4) <;> intro hq <;> (try simp only [zH] at hq) <;> (try (exfalso; omega))) | (with_reducible apply z5; (case hl => (repeat (first | exact .nil | with_reducible apply z6 | with_reducible apply z7))); (case h => kernel_rfl))))
        · have hnm2 : n < mx := by omega
          (repeat' (first | (simp -implicitDefEqProofs (maxSteps := 2000000) (disch := first | with_reducible assumption | omega | (simp only [zS, zA, Nat.reduceEqDiff, Nat.reduceLT, Nat.reduceLeDiff, Nat.reduceAdd, Nat.reduceSub, reduceCtorEq, wab, wof, wkb, wwb, zD] <;> omega) | fail) only [zS, argl, insA, Go.Den.wm, wo, wu, looks, wfb, web, idOf, riA, Nat.reduceLeDiff, Nat.reduceLT, Nat.reduceEqDiff, Nat.reduceDiv, Nat.reduceMod, Int.reduceLT, Int.reduceLE, Int.reduceEq, Int.reduceNeg, Int.reduceToNat, Int.reduceSub, Int.reduceMul, Int.reduceNe, Nat.reduceAdd, Nat.reduceMul, Nat.reduceSub, Int.reduceAdd, reduceCtorEq, Go.Den.wh, kK, wcb, wab, wkb, wwb, wod wwg, wmf wwg, wbg, wof, *, zT]) | (with_reducible (first | apply z1 | apply z2 | apply z3 | apply z4) <;> intro hq <;> (try simp only [zH] at hq) <;> (try (exfalso; omega))) | (with_reducible apply z5; (case hl => (repeat (first | exact .nil | with_reducible apply z6 | with_reducible apply z7))); (case h => kernel_rfl))))
    · have hb := wkcb (w := w) (k := k) (out := out) hm _ rfl
      rw [if_neg hnm] at hb
      simp only at hb
      rw [hb]
      have hmx0 : ¬ mx < 0 := fun h => hnm (.inl h)
      have hnm2 : ¬ n < mx := fun h => hnm (.inr h)
      have hadd := wxo out [x] ho (by simp) (by have := row_len (hr.add (xs := [x]) (fun y hy => by rw [List.mem_singleton] at hy; subst hy; exact ⟨hx, hxa⟩)) hs; omega)
      rw [wdg, show [x].length = 1 from rfl] at hadd
      clear IH k3 hw r1 r2 hb hnm
      by_cases hge : n ≥ mn
      · rw [if_pos hge]
        (repeat' (first | (simp -implicitDefEqProofs (maxSteps := 2000000) (disch := first | with_reducible assumption | omega | (simp only [zS, zA, Nat.reduceEqDiff, Nat.reduceLT, Nat.reduceLeDiff, Nat.reduceAdd, Nat.reduceSub, reduceCtorEq, wab, wof, wkb, wwb, zD] <;> omega) | fail) only [zS, argl, insA, Go.Den.wm, wo, wu, looks, wfb, web, idOf, riA, Nat.reduceLeDiff, Nat.reduceLT, Nat.reduceEqDiff, Nat.reduceDiv, Nat.reduceMod, Int.reduceLT, Int.reduceLE, Int.reduceEq, Int.reduceNeg, Int.reduceToNat, Int.reduceSub, Int.reduceMul, Int.reduceNe, Nat.reduceAdd, Nat.reduceMul, Nat.reduceSub, Int.reduceAdd, reduceCtorEq, Go.Den.wh, kK, wcb, wab, wkb, wwb, wod wwg, wmf wwg, wbg, wof, *, zT]) | (with_reducible (first | apply z1 | apply z2 | apply z3 | apply z4) <;> intro hq <;> (try simp only [zH] at hq) <;> (try (exfalso; omega))) | (with_reducible apply z5; (case hl => (repeat (first | exact .nil | with_reducible apply z6 | with_reducible apply z7))); (case h => kernel_rfl))))
      · rw [if_neg hge]
        (repeat' (first | (simp -implicitDefEqProofs (maxSteps := 2000000) (disch := first | with_reducible assumption | omega | (simp only [zS, zA, Nat.reduceEqDiff, Nat.reduceLT, Nat.reduceLeDiff, Nat.reduceAdd, Nat.reduceSub, reduceCtorEq, wab, wof, wkb, wwb, zD] <;> omega) | fail) only [zS, argl, insA, Go.Den.wm, wo, wu, looks, wfb, web, idOf, riA, Nat.reduceLeDiff, Nat.reduceLT, Nat.reduceEqDiff, Nat.reduceDiv, Nat.reduceMod, Int.reduceLT, Int.reduceLE, Int.reduceEq, Int.reduceNeg, Int.reduceToNat, Int.reduceSub, Int.reduceMul, Int.reduceNe, Nat.reduceAdd, Nat.reduceMul, Nat.reduceSub, Int.reduceAdd, reduceCtorEq, Go.Den.wh, kK, wcb, wab, wkb, wwb, wod wwg, wmf wwg, wbg, wof, *, zT]) | (with_reducible (first | apply z1 | apply z2 | apply z3 | apply z4) <;> intro hq <;> (try simp only [zH] at hq) <;> (try (exfalso; omega))) | (with_reducible apply z5; (case hl => (repeat (first | exact .nil | with_reducible apply z6 | with_reducible apply z7))); (case h => kernel_rfl))))
end
end
end Go.Proofs.Ytdbhfmdndiphcaa
namespace Go.Proofs.Ytdbhfmdndiphcaa
set_option linter.unusedVariables false
set_option linter.unusedSimpArgs false
open Go.Den
noncomputable section
section
variable (s : List UInt8) (bol : Bool) (mn mx nn : Int) (set : BitVec 256) (kids : List Rx)
set_option maxHeartbeats 4000000 in
theorem ev_on_N (hs : s.length ≤ 12) (hmn : 0 ≤ mn ∧ mn ≤ 20) (hmx : mx ≤ 20) (w : St → List St) (a : Int) (hk : KidOk s bol kids w) (k : Nat) (IHC : OnC s bol mn mx nn set kids w a k) (IH : OnN s bol mn mx nn set kids w a k) : OnN s bol mn mx nn set kids w a (k + 1) := by
  intro n x met hn hn2 hx hxa hmu
  obtain ⟨kid, k1, k2, k3⟩ := hk
  have hw := fun y hy => (k3 y hy).1
  have ⟨r1, r2⟩ := k3 x hx
  have r3 := row_len r1 hs
  have key := ev_key_N s bol mn mx nn set kids
  refine wjc hc wyi (Nat.le_of_ble_eq_true rfl) (Nat.le_of_ble_eq_true rfl) ?_
  unfold wai
  by_cases hm : keyF mn mx n x ∈ met
  · rw [wocc hm, reO, if_pos rfl]
    clear IH IHC k3 hw r1 r2
    (repeat' (first | (simp -implicitDefEqProofs (maxSteps := 2000000) (disch := first | with_reducible assumption | omega | (simp only [zS, zA, Nat.reduceEqDiff, Nat.reduceLT, Nat.reduceLeDiff, Nat.reduceAdd, Nat.reduceSub, reduceCtorEq, wab, wof, wkb, wwb, zD] <;> omega) | fail) only [zS, argl, insA, Go.Den.wm, wo, wu, looks, wfb, web, idOf, riA, Nat.reduceLeDiff, Nat.reduceLT, Nat.reduceEqDiff, Nat.reduceDiv, Nat.reduceMod, Int.reduceLT, Int.reduceLE, Int.reduceEq, Int.reduceNeg, Int.reduceToNat, Int.reduceSub, Int.reduceMul, Int.reduceNe, Nat.reduceAdd, Nat.reduceMul, Nat.reduceSub, Int.reduceAdd, reduceCtorEq, Go.Den.wh, kK, wab, wkb, wwb, wod wwg, wbg, wof, *, zT]) | (with_reducible (first | apply z1 | apply z2 | apply z3 | apply z4) <;> intro hq <;> (try simp only [zH] at hq) <;> (try (exfalso; omega))) | (with_reducible apply z5; (case hl => (repeat (first | exact .nil | with_reducible apply z6 | with_reducible apply z7))); (case h => kernel_rfl))))
  · by_cases hnm : mx < 0 ∨ n < mx
    · have hb := wkcb (w := w) (k := k) (out := []) hm _ rfl
      rw [if_pos hnm] at hb
      have hl := on_loopN s bol mn mx nn set kids hs hmn hmx w a hw k IHC IH n ⟨hn, by omega⟩ hnm x hx hxa hmu (w x) (by omega) r1.good (w x).length 0 (met ++ [keyF mn mx n x]) (by omega)
      rw [List.drop_zero, show ((0 : Nat) : Int) = 0 from rfl] at hl
      have hbr := wkgb (a := a) (mn := mn) (mx := mx) hw (k := k) (n := n) (x := x) (w x) (met ++ [keyF mn mx n x], []) (fun y hy => ⟨(r1.good y hy).1, by have := (r1.good y hy).2; omega⟩) .nil
      generalize wrt w mn mx k n x (w x) (met ++ [keyF mn mx n x], []) = b at hb hl hbr
      obtain ⟨bm, bo⟩ := b
      simp only at hb hbr
      rw [hb]
      have hlen : (addF bo [x]).length ≤ 16000000 := by have := row_len (hbr.add (xs := [x]) (fun y hy => by rw [List.mem_singleton] at hy; subst hy; exact ⟨hx, hxa⟩)) hs; omega
      clear IH IHC k3 hw r1 hb hbr
      unfold feO at hl
      by_cases hbo : bo = []
      · subst hbo
        rw [if_pos rfl] at hl
        have hadd := wyr [x] (by simp) (by simp) hlen
        rw [wdg, show [x].length = 1 from rfl] at hadd
        by_cases hge : n ≥ mn
        · rw [if_pos hge, reO, if_neg (woh (.inr (by simp)))]
          by_cases hmx0 : mx < 0
          · (repeat' (first | (simp -implicitDefEqProofs (maxSteps := 2000000) (disch := first | with_reducible assumption | omega | (simp only [zS, zA, Nat.reduceEqDiff, Nat.reduceLT, Nat.reduceLeDiff, Nat.reduceAdd, Nat.reduceSub, reduceCtorEq, wab, wof, wkb, wwb, zD] <;> omega) | fail) only [zS, argl, insA, Go.Den.wm, wo, wu, looks, wfb, web, idOf, riA, Nat.reduceLeDiff, Nat.reduceLT, Nat.reduceEqDiff, Nat.reduceDiv, Nat.reduceMod, Int.reduceLT, Int.reduceLE, Int.reduceEq, Int.reduceNeg, Int.reduceToNat, Int.reduceSub, Int.reduceMul, Int.reduceNe, Nat.reduceAdd, Nat.reduceMul, Nat.reduceSub, Int.reduceAdd, reduceCtorEq, Go.Den.wh, kK, wcb, wab, wkb, wwb, wod wwg, wmf wwg, wbg, wof, *, zT]) | (with_reducible (first | apply z1 | apply z2 | apply z3 | apply z4) <;> intro hq <;> (try simp only [zH] at hq) <;> (try (exfalso; omega))) | (with_reducible apply z5; (case hl => (repeat (first | exact .nil | with_reducible apply z6 | with_reducible apply z7))); (case h => kernel_rfl))))
          · have hnm2 : n < mx := by omega
            (repeat' (first | (simp -implicitDefEqProofs (maxSteps := 2000000) (disch := first | with_reducible assumption | omega | (simp only [zS, zA, Nat.reduceEqDiff, Nat.reduceLT, Nat.reduceLeDiff, Nat.reduceAdd, Nat.reduceSub, reduceCtorEq, wab, wof, wkb, wwb, zD] <;> omega) | fail) only [zS, argl, insA, Go.Den.wm, wo, wu, looks, wfb, web, idOf, riA, Nat.reduceLeDiff, Nat.reduceLT, Nat.reduceEqDiff, Nat.reduceDiv, Nat.reduceMod, Int.reduceLT, Int.reduceLE, Int.reduceEq, Int.reduceNeg, Int.reduceToNat, Int.reduceSub, Int.reduceMul, Int.reduceNe, Nat.reduceAdd, Nat.reduceMul, Nat.reduceSub, Int.reduceAdd, reduceCtorEq, Go.Den.wh, kK, wcb, wab, wkb, wwb, wod wwg, wmf wwg, wbg, wof, *, zT]) | (with_reducible (first | apply z1 | apply z2 | apply z3 | apply z4) <;> intro hq <;> (try simp only [zH] at hq) <;> (try (exfalso; omega))) | (with_reducible apply z5; (case hl => (repeat (first | exact .nil | with_reducible apply z6 | with_reducible apply z7))); (case h => kernel_rfl))))
        · rw [if_neg hge, reO, if_pos rfl]
          by_cases hmx0 : mx < 0
          · (repeat' (first | (simp -implicitDefEqProofs (maxSteps := 2000000) (disch := first | with_reducible assumption | omega | (simp only [zS, zA, Nat.reduceEqDiff, Nat.reduceLT, Nat.reduceLeDiff, Nat.reduceAdd, Nat.reduceSub, reduceCtorEq, wab, wof, wkb, wwb, zD] <;> omega) | fail) only [zS, argl, insA, Go.Den.wm, wo, wu, looks, wfb, web, idOf, riA, Nat.reduceLeDiff, Nat.reduceLT, Nat.reduceEqDiff, Nat.reduceDiv, Nat.reduceMod, Int.reduceLT, Int.reduceLE, Int.reduceEq, Int.reduceNeg, Int.reduceToNat, Int.reduceSub, Int.reduceMul, Int.reduceNe, Nat.reduceAdd, Nat.reduceMul, Nat.reduceSub, Int.reduceAdd, reduceCtorEq, Go.Den.wh, kK, wcb, wab, wkb, wwb, wod wwg, wmf wwg, wbg, wof, *, zT]) | (with_reducible (first | apply z1 | apply z2 | apply z3 | apply z4) <;> intro hq <;> (try simp only [zH] at hq) <;> (try (exfalso; omega))) | (with_reducible apply z5; (case hl => (repeat (first | exact .nil | with_reducible apply z6 | with_reducible apply z7))); (case h => kernel_rfl))))
          · have hnm2 : n < mx := by omega
            (repeat' (first | (simp -implicitDefEqProofs (maxSteps := 2000000) (disch := first | with_reducible assumption | omega | (simp only [zS, zA, Nat.reduceEqDiff, Nat.reduceLT, Nat.reduceLeDiff, Nat.reduceAdd, Nat.reduceSub, reduceCtorEq, wab, wof, wkb, wwb, zD] <;> omega) | fail) only [zS, argl, insA, Go.Den.wm, wo, wu, looks, wfb, web, idOf, riA, Nat.reduceLeDiff, Nat.reduceLT, Nat.reduceEqDiff, Nat.reduceDiv, Nat.reduceMod, Int.reduceLT, Int.reduceLE, Int.reduceEq, Int.reduceNeg, Int.reduceToNat, Int.reduceSub, Int.reduceMul, Int.reduceNe, Nat.reduceAdd, Nat.reduceMul, Nat.reduceSub, Int.reduceAdd, reduceCtorEq, Go.Den.wh, kK, wcb, wab, wkb, wwb, wod wwg, wmf wwg, wbg, wof, *, zT]) | (with_reducible (first | apply z1 | apply z2 | apply z3 | apply z4) <;> intro hq <;> (try simp only [zH] at hq) <;> (try (exfalso; omega))) | (with_reducible apply z5; (case hl => (repeat (first | exact .nil | with_reducible apply z6 | with_reducible apply z7))); (case h => kernel_rfl))))
      · rw [if_neg hbo] at hl
        have hadd := wxo bo [x] hbo (by simp) hlen
        rw [wdg, show [x].length = 1 from rfl] at hadd
        by_cases hge : n ≥ mn
        · rw [if_pos hge, reO, if_neg (woh (.inr (by simp)))]
          by_cases hmx0 : mx < 0
          · (repeat' (first | (simp -implicitDefEqProofs (maxSteps := 2000000) (disch := first | with_reducible assumption | omega | (simp only [zS, zA, Nat.reduceEqDiff, Nat.reduceLT, Nat.reduceLeDiff, Nat.reduceAdd, Nat.reduceSub, reduceCtorEq, wab, wof, wkb, wwb, zD] <;> omega) | fail) only [zS, argl, insA, Go.Den.wm, wo, wu, looks, wfb, web, idOf, riA, Nat.reduceLeDiff, Nat.reduceLT, Nat.reduceEqDiff, Nat.reduceDiv, Nat.reduceMod, Int.reduceLT, Int.reduceLE, Int.reduceEq, Int.reduceNeg, Int.reduceToNat, Int.reduceSub, Int.reduceMul, Int.reduceNe, Nat.reduceAdd, Nat.reduceMul, Nat.reduceSub, Int.reduceAdd, reduceCtorEq, Go.Den.wh, kK, wcb, wab, wkb, wwb, wod wwg, wmf wwg, wbg, wof, *, zT]) | (with_reducible (first | apply z1 | apply z2 | apply z3 | apply z4) <;> intro hq <;> (try simp only [zH] at hq) <;> (try (exfalso; omega))) | (with_reducible apply z5; (case hl => (repeat (first | exact .nil | with_reducible apply z6 | with_reducible apply z7))); (case h => kernel_rfl))))
          · have hnm2 : n < mx := by omega
            (repeat' (first | (simp -implicitDefEqProofs (maxSteps := 2000000) (disch := first | with_reducible assumption | omega | (simp only [zS, zA, Nat.reduceEqDiff, Nat.reduceLT, Nat.reduceLeDiff, Nat.reduceAdd, Nat.reduceSub, reduceCtorEq, wab, wof, wkb, wwb, zD] <;> omega) | fail) only [zS, argl, insA, Go.Den.wm, wo, wu, looks, wfb, web, idOf, riA, Nat.reduceLeDiff, Nat.reduceLT, Nat.reduceEqDiff, Nat.reduceDiv, Nat.reduceMod, Int.reduceLT, Int.reduceLE, Int.reduceEq, Int.reduceNeg, Int.reduceToNat, Int.reduceSub, Int.reduceMul, Int.reduceNe, Nat.reduceAdd, Nat.reduceMul, Nat.reduceSub, Int.reduceAdd, reduceCtorEq, Go.Den.wh, kK, wcb, wab, wkb, wwb, wod wwg, wmf wwg, wbg, wof, *, zT]) | (with_reducible (first | apply z1 | apply z2 | apply z3 | apply z4) <;> intro hq <;> (try simp only [zH] at hq) <;> (try (exfalso; omega))) | (with_reducible apply z5; (case hl => (repeat (first | exact .nil | with_reducible apply z6 | with_reducible apply z7))); (case h => kernel_rfl))))
        · rw [if_neg hge, reO, if_neg hbo]
          by_cases hmx0 : mx < 0
          · (repeat' (first | (simp -implicitDefEqProofs (maxSteps := 2000000) (disch := first | with_reducible assumption | omega | (simp only [zS, zA, Nat.reduceEqDiff, Nat.reduceLT, Nat.reduceLeDiff, Nat.reduceAdd, Nat.reduceSub, reduceCtorEq, wab, wof, wkb, wwb, zD] <;> omega) | fail) only [zS, argl, insA, Go.Den.wm, wo, wu, looks, wfb, web, idOf, riA, Nat.reduceLeDiff, Nat.reduceLT, Nat.reduceEqDiff, Nat.reduceDiv, Nat.reduceMod, Int.reduceLT, Int.reduceLE, Int.reduceEq, Int.reduceNeg, Int.reduceToNat, Int.reduceSub, Int.reduceMul, Int.reduceNe, Nat.reduceAdd, Nat.reduceMul, Nat.reduceSub, Int.reduceAdd, reduceCtorEq, Go.Den.wh, kK, wcb, wab, wkb, wwb, wod wwg, wmf wwg, wbg, wof, *, zT]) | (with_reducible (first | apply z1 | apply z2 | apply z3 | apply z4) <;> intro hq <;> (try simp only [zH] at hq) <;> (try (exfalso; omega))) | (with_reducible apply z5; (case hl => (repeat (first | exact .nil | with_reducible apply z6 | with_reducible apply z7))); (case h => kernel_rfl))))
          · have hnm2 : n < mx := by omega
            (repeat' (first | (simp -implicitDefEqProofs (maxSteps := 2000000) (disch := first | with_reducible assumption | omega | (simp only [zS, zA, Nat.reduceEqDiff, Nat.reduceLT, Nat.reduceLeDiff, Nat.reduceAdd, Nat.reduceSub, reduceCtorEq, wab, wof, wkb, wwb, zD] <;> omega) | fail) only [zS, argl, insA, Go.Den.wm, wo, wu, looks, wfb, web, idOf, riA, Nat.reduceLeDiff, Nat.reduceLT, Nat.reduceEqDiff, Nat.reduceDiv, Nat.reduceMod, Int.reduceLT, Int.reduceLE, Int.reduceEq, Int.reduceNeg, Int.reduceToNat, Int.reduceSub, Int.reduceMul, Int.reduceNe, Nat.reduceAdd, Nat.reduceMul, Nat.reduceSub, Int.reduceAdd, reduceCtorEq, Go.Den.wh, kK, wcb, wab, wkb, wwb, wod wwg, wmf wwg, wbg, wof, *, zT]) | (with_reducible (first | apply z1 | apply z2 | apply z3 | apply z4) <;> intro hq <;> (try simp only [zH] at hq) <;> (try (exfalso; omega))) | (with_reducible apply z5; (case hl => (repeat (first | exact .nil | with_reducible apply z6 | with_reducible apply z7))); (case h => kernel_rfl))))
    · have hb := wkcb (w := w) (k := k) (out := []) hm _ rfl
      rw [if_neg hnm] at hb
      simp only at hb
      rw [hb]
      have hmx0 : ¬ mx < 0 := fun h => hnm (.inl h)
      have hnm2 : ¬ n < mx := fun h => hnm (.inr h)
      have hadd := wyr [x] (by simp) (by simp) (by have := row_len ((RwS.nil (len := s.length) (a := a)).add (xs := [x]) (fun y hy => by rw [List.mem_singleton] at hy; subst hy; exact ⟨hx, hxa⟩)) hs; omega)
      rw [wdg, show [x].length = 1 from rfl] at hadd
      clear IH IHC k3 hw r1 r2 hb hnm
      by_cases hge : n ≥ mn
      · rw [if_pos hge, reO, if_neg (woh (.inr (by simp)))]
        (repeat' (first | (simp -implicitDefEqProofs (maxSteps := 2000000) (disch := first | with_reducible assumption | omega | (simp only [zS, zA, Nat.reduceEqDiff, Nat.reduceLT, Nat.reduceLeDiff, Nat.reduceAdd, Nat.reduceSub, reduceCtorEq, wab, wof, wkb, wwb, zD] <;> omega) | fail) only [zS, argl, insA, Go.Den.wm, wo, wu, looks, wfb, web, idOf, riA, Nat.reduceLeDiff, Nat.reduceLT, Nat.reduceEqDiff, Nat.reduceDiv, Nat.reduceMod, Int.reduceLT, Int.reduceLE, Int.reduceEq, Int.reduceNeg, Int.reduceToNat, Int.reduceSub, Int.reduceMul, Int.reduceNe, Nat.reduceAdd, Nat.reduceMul, Nat.reduceSub, Int.reduceAdd, reduceCtorEq, Go.Den.wh, kK, wcb, wab, wkb, wwb, wod wwg, wmf wwg, wbg, wof, *, zT]) | (with_reducible (first | apply z1 | apply z2 | apply z3 | apply z4) <;> intro hq <;> (try simp only [zH] at hq) <;> (try (exfalso; omega))) | (with_reducible apply z5; (case hl => (repeat (first | exact .nil | with_reducible apply z6 | with_reducible apply z7))); (case h => kernel_rfl))))
      · rw [if_neg hge, reO, if_pos rfl]
        (repeat' (first | (simp -implicitDefEqProofs (maxSteps := 2000000) (disch := first | with_reducible assumption | omega | (simp only [zS, zA, Nat.reduceEqDiff, Nat.reduceLT, Nat.reduceLeDiff, Nat.reduceAdd, Nat.reduceSub, reduceCtorEq, wab, wof, wkb, wwb, zD] <;> omega) | fail) only [zS, argl, insA, Go.Den.wm, wo, wu, looks, wfb, web, idOf, riA, Nat.reduceLeDiff, Nat.reduceLT, Nat.reduceEqDiff, Nat.reduceDiv, Nat.reduceMod, Int.reduceLT, Int.reduceLE, Int.reduceEq, Int.reduceNeg, Int.reduceToNat, Int.reduceSub, Int.reduceMul, Int.reduceNe, Nat.reduceAdd, Nat.reduceMul, Nat.reduceSub, Int.reduceAdd, reduceCtorEq, Go.Den.wh, kK, wcb, wab, wkb, wwb, wod wwg, wmf wwg, wbg, wof, *, zT]) | (with_reducible (first | apply z1 | apply z2 | apply z3 | apply z4) <;> intro hq <;> (try simp only [zH] at hq) <;> (try (exfalso; omega))) | (with_reducible apply z5; (case hl => (repeat (first | exact .nil | with_reducible apply z6 | with_reducible apply z7))); (case h => kernel_rfl))))
theorem on_all (hs : s.length ≤ 12) (hmn : 0 ≤ mn ∧ mn ≤ 20) (hmx : mx ≤ 20) (w : St → List St) (a : Int) (hk : KidOk s bol kids w) : ∀ k, OnC s bol mn mx nn set kids w a k ∧ OnN s bol mn mx nn set kids w a k := by
  intro k
  induction k with
  | zero => exact ⟨fun n x met out _ _ _ _ h => absurd h (Nat.not_lt_zero _), fun n x met _ _ _ _ h => absurd h (Nat.not_lt_zero _)⟩
  | succ k ih => exact ⟨ev_on_C s bol mn mx nn set kids hs hmn hmx w a hk k ih.1, ev_on_N s bol mn mx nn set kids hs hmn hmx w a hk k ih.1 ih.2⟩
end
end
end Go.Proofs.Ytdbhfmdndiphcaa
namespace Go.Proofs.Ytdbhfmdndiphcaa
set_option linter.unusedVariables false
set_option linter.unusedSimpArgs false
open Go.Den
noncomputable section
section
variable (s : List UInt8) (bol : Bool)
def grpF (n : Int) (x y : St) : St := (y.1, (y.2.put (n.toNat * 2) x.1).put (n.toNat * 2 + 1) y.1)
abbrev gfN (r : Rx) (x : St) : List ABlk := [X (rxC r) 47 0 true, X (stC x) 113 0 true, X [.slice none 0 0, .map (some 3)] 158 0 false, .map []]
abbrev gfC (r : Rx) (x : St) (out : List St) : List ABlk := [X (rxC r) 47 0 true, X (stC x) 113 0 true, X [FO 3 out.length (stsC out), .map (some 4)] 158 0 false, .tok out.length 113 9, .map (setK stC out)]
set_option maxHeartbeats 4000000 in
theorem wpcc (hs : s.length ≤ 12) (r : Rx) (n1 : 1 ≤ r.n) (n3 : r.n ≤ 3) (x : St) (hx : GdS s.length x) (l : List St) (hll : l.length ≤ 16000000) (hl : ∀ y ∈ l, GdS s.length y ∧ x.1 ≤ y.1) :
    ∀ (j i : Nat) (out : List St), i + j = l.length → out ≠ [] → RwS s.length x.1 out →
    lim Try.prog cfg (.loop 63 0 (wdc 0) (SE (EJ 158 G0) [(82, .int .i64 i), (81, .int .i64 l.length), (80, FL l.length (stsC l)), (8, .pointer (some ⟨2, 0, none⟩)), (5, .pointer (some ⟨1, 0, none⟩)), (4, .pointer (some ⟨0, 0, none⟩))])) (HP (gfC r x out)) = some (.code (.exit 1) (SE (EJ 158 G0) [(8, .pointer (some ⟨0, 0, none⟩))]), HP (rowC (wzr (fun y => [grpF r.n x y]) (l.drop i) out))) := by
  intro j
  induction j with
  | zero =>
    intro i out hi ho hr
    rw [List.drop_of_length_le (by omega)]
    refine ww wbf ?_
    unfold waf
    clear hl
    (repeat' (first | (simp -implicitDefEqProofs (maxSteps := 2000000) (disch := first | with_reducible assumption | omega | (simp only [zS, zA, Nat.reduceEqDiff, Nat.reduceLT, Nat.reduceLeDiff, Nat.reduceAdd, Nat.reduceSub, reduceCtorEq, wab, zD] <;> omega) | fail) only [zS, argl, insA, Go.Den.wm, wo, wu, looks, wfb, web, idOf, riA, Nat.reduceLeDiff, Nat.reduceLT, Nat.reduceEqDiff, Nat.reduceDiv, Nat.reduceMod, Int.reduceLT, Int.reduceLE, Int.reduceEq, Int.reduceNeg, Int.reduceToNat, Int.reduceSub, Int.reduceMul, Int.reduceNe, Nat.reduceAdd, Nat.reduceMul, Nat.reduceSub, Int.reduceAdd, reduceCtorEq, Go.Den.wh, kK, wbe, wab, *, zT]) | (with_reducible (first | apply z1 | apply z2 | apply z3 | apply z4) <;> intro hq <;> (try simp only [zH] at hq) <;> (try (exfalso; omega)))))
    all_goals rfl
  | succ j ih =>
    intro i out hi ho hr
    rw [wqg l (by omega), wts]
    have hy := hl (l.getD i St.zero) (by rw [List.getD_eq_getElem?_getD, List.getElem?_eq_getElem (by omega)]; exact List.getElem_mem _)
    have h3 : RwS s.length x.1 (addF out [grpF r.n x (l.getD i St.zero)]) := hr.add (fun z hz => by rw [List.mem_singleton] at hz; subst hz; exact ⟨hx.group hy.1 hy.2 n1 n3, hy.2⟩)
    have hadd := wxo out [grpF r.n x (l.getD i St.zero)] ho (by simp) (by have := row_len h3 hs; omega)
    have h2 := ih (i + 1) _ (by omega) (woh (.inl ho)) h3
    rw [wdg, show [grpF r.n x (l.getD i St.zero)].length = 1 from rfl, show stC (grpF r.n x (l.getD i St.zero)) = .int .i64 (l.getD i St.zero).1 :: mtC (((l.getD i St.zero).2.put (r.n.toNat * 2) x.1).put (r.n.toNat * 2 + 1) (l.getD i St.zero).1) from rfl] at hadd
    refine ww wbf ?_
    unfold waf
    clear ih hl h3 hr hy
    (repeat' (first | (simp -implicitDefEqProofs (maxSteps := 2000000) (disch := first | with_reducible assumption | omega | (simp only [zS, zA, Nat.reduceEqDiff, Nat.reduceLT, Nat.reduceLeDiff, Nat.reduceAdd, Nat.reduceSub, reduceCtorEq, wab, wkb, zD] <;> omega) | fail) only [zS, argl, insA, Go.Den.wm, wo, wu, looks, wfb, web, idOf, riA, Nat.reduceLeDiff, Nat.reduceLT, Nat.reduceEqDiff, Nat.reduceDiv, Nat.reduceMod, Int.reduceLT, Int.reduceLE, Int.reduceEq, Int.reduceNeg, Int.reduceToNat, Int.reduceSub, Int.reduceMul, Int.reduceNe, Nat.reduceAdd, Nat.reduceMul, Nat.reduceSub, Int.reduceAdd, reduceCtorEq, Go.Den.wh, kK, wbe, wab, wkb, *, zT]) | (with_reducible (first | apply z1 | apply z2 | apply z3 | apply z4) <;> intro hq <;> (try simp only [zH] at hq) <;> (try (exfalso; omega)))))
    exact h2
set_option maxHeartbeats 4000000 in
theorem wqcc (hs : s.length ≤ 12) (r : Rx) (n1 : 1 ≤ r.n) (n3 : r.n ≤ 3) (x : St) (hx : GdS s.length x) (l : List St) (hll : l.length ≤ 16000000) (hl : ∀ y ∈ l, GdS s.length y ∧ x.1 ≤ y.1) :
    lim Try.prog cfg (.loop 63 0 (wdc 0) (SE (EJ 158 G0) [(82, .int .i64 0), (81, .int .i64 l.length), (80, FL l.length (stsC l)), (8, .pointer (some ⟨2, 0, none⟩)), (5, .pointer (some ⟨1, 0, none⟩)), (4, .pointer (some ⟨0, 0, none⟩))])) (HP (gfN r x)) = some (.code (.exit 1) (SE (EJ 158 G0) [(8, .pointer (some ⟨0, 0, none⟩))]), HP (rowO (wzr (fun y => [grpF r.n x y]) l []))) := by
  by_cases h0 : l = []
  · subst h0
    clear hl
    refine ww wbf ?_
    unfold waf
    (repeat' (first | (simp -implicitDefEqProofs (maxSteps := 2000000) (disch := first | with_reducible assumption | omega | (simp only [zS, zA, Nat.reduceEqDiff, Nat.reduceLT, Nat.reduceLeDiff, Nat.reduceAdd, Nat.reduceSub, reduceCtorEq, wab, zD] <;> omega) | fail) only [zS, argl, insA, Go.Den.wm, wo, wu, looks, wfb, web, idOf, riA, Nat.reduceLeDiff, Nat.reduceLT, Nat.reduceEqDiff, Nat.reduceDiv, Nat.reduceMod, Int.reduceLT, Int.reduceLE, Int.reduceEq, Int.reduceNeg, Int.reduceToNat, Int.reduceSub, Int.reduceMul, Int.reduceNe, Nat.reduceAdd, Nat.reduceMul, Nat.reduceSub, Int.reduceAdd, reduceCtorEq, Go.Den.wh, kK, wbe, wab, *, zT]) | (with_reducible (first | apply z1 | apply z2 | apply z3 | apply z4) <;> intro hq <;> (try simp only [zH] at hq) <;> (try (exfalso; omega)))))
    all_goals rfl
  · have h00 : 0 < l.length := List.length_pos_iff.2 h0
    have hd := wqg l h00
    rw [List.drop_zero] at hd
    have hy := hl (l.getD 0 St.zero) (by rw [List.getD_eq_getElem?_getD, List.getElem?_eq_getElem (by omega)]; exact List.getElem_mem _)
    have h3 : RwS s.length x.1 (addF [] [grpF r.n x (l.getD 0 St.zero)]) := RwS.nil.add (fun z hz => by rw [List.mem_singleton] at hz; subst hz; exact ⟨hx.group hy.1 hy.2 n1 n3, hy.2⟩)
    have hadd := wyr [grpF r.n x (l.getD 0 St.zero)] (by simp) (by simp) (by have := row_len h3 hs; omega)
    have h2 := wpcc s hs r n1 n3 x hx l hll hl (l.length - 1) 1 (addF [] [grpF r.n x (l.getD 0 St.zero)]) (by omega) (woh (.inr (by simp))) h3
    have he : wzr (fun y => [grpF r.n x y]) l [] = wzr (fun y => [grpF r.n x y]) (l.drop 1) (addF [] [grpF r.n x (l.getD 0 St.zero)]) := by
      conv => lhs; rw [hd]
      rfl
    rw [he, rowO, if_neg (wgnb _ _ _ (woh (.inr (by simp))))]
    rw [wdg, show [grpF r.n x (l.getD 0 St.zero)].length = 1 from rfl, show stC (grpF r.n x (l.getD 0 St.zero)) = .int .i64 (l.getD 0 St.zero).1 :: mtC (((l.getD 0 St.zero).2.put (r.n.toNat * 2) x.1).put (r.n.toNat * 2 + 1) (l.getD 0 St.zero).1) from rfl] at hadd
    have hg := wdcb (l := l) (i := 0) h00
    rw [Nat.zero_mul] at hg
    refine ww wbf ?_
    unfold waf
    clear hl h3 hy he hd
    (repeat' (first | (simp -implicitDefEqProofs (maxSteps := 2000000) (disch := first | with_reducible assumption | omega | (simp only [zS, zA, Nat.reduceEqDiff, Nat.reduceLT, Nat.reduceLeDiff, Nat.reduceAdd, Nat.reduceSub, reduceCtorEq, wab, wkb, zD] <;> omega) | fail) only [zS, argl, insA, Go.Den.wm, wo, wu, looks, wfb, web, idOf, riA, Nat.reduceLeDiff, Nat.reduceLT, Nat.reduceEqDiff, Nat.reduceDiv, Nat.reduceMod, Int.reduceLT, Int.reduceLE, Int.reduceEq, Int.reduceNeg, Int.reduceToNat, Int.reduceSub, Int.reduceMul, Int.reduceNe, Nat.reduceAdd, Nat.reduceMul, Nat.reduceSub, Int.reduceAdd, reduceCtorEq, Go.Den.wh, kK, wbe, wab, wkb, *, zT]) | (with_reducible (first | apply z1 | apply z2 | apply z3 | apply z4) <;> intro hq <;> (try simp only [zH] at hq) <;> (try (exfalso; omega)))))
    exact h2
def wlgb (kids : List Rx) : Prop := ∀ r ∈ kids, ∀ y, GdS s.length y → RwS s.length y.1 (wpf s bol r y) ∧ lim Try.prog cfg (.call 63 [.agg ⟨[str s, .bool bol]⟩, .agg ⟨rxC r⟩, .agg ⟨stC y⟩]) (HP []) = some (.val (FL (wpf s bol r y).length (stsC (wpf s bol r y))), HP [])
theorem wlcb (kids : List Rx) {i : Nat} (h : i < kids.length) : kids.drop i = kids.getD i Rx.zero :: kids.drop (i + 1) := by
  rw [List.drop_eq_getElem_cons h, List.getD_eq_getElem?_getD, List.getElem?_eq_getElem h]; rfl
theorem wykb (kids : List Rx) {i : Nat} (h : i < kids.length) : kids.getD i Rx.zero ∈ kids := by
  rw [List.getD_eq_getElem?_getD, List.getElem?_eq_getElem h]; exact List.getElem_mem _
abbrev afN (x : St) : List ABlk := [X [str s, .bool bol] 123 0 true, X (stC x) 113 0 true, X [.slice none 0 0, .map (some 3)] 158 0 false, .map []]
abbrev afC (x : St) (out : List St) : List ABlk := [X [str s, .bool bol] 123 0 true, X (stC x) 113 0 true, X [FO 3 out.length (stsC out), .map (some 4)] 158 0 false, .tok out.length 113 9, .map (setK stC out)]
theorem altF_ne {x : St} : ∀ (l : List Rx) (out : List St), out ≠ [] → altF s bol l x out ≠ [] := by
  intro l
  induction l with
  | nil => intro out h; rw [altF]; exact h
  | cons r l ih => intro out h; rw [altF]; exact ih _ (woh (.inl h))
set_option maxHeartbeats 4000000 in
theorem wrcc (hs : s.length ≤ 12) (x : St) (hx : GdS s.length x) (kids : List Rx) (hll : kids.length ≤ 16000000) (hk : wlgb s bol kids) :
    ∀ (j i : Nat) (out : List St), i + j = kids.length → out ≠ [] → RwS s.length x.1 out →
    lim Try.prog cfg (.loop 63 0 (wdc 1) (SE (EJ 158 G0) [(110, .int .i64 i), (109, .int .i64 kids.length), (108, FL kids.length (rxsC kids)), (11, .pointer (some ⟨2, 0, none⟩)), (5, .pointer (some ⟨1, 0, none⟩)), (3, .pointer (some ⟨0, 0, none⟩))])) (HP (afC s bol x out)) = some (.code (.exit 3) (SE (EJ 158 G0) [(11, .pointer (some ⟨0, 0, none⟩))]), HP (rowC (altF s bol (kids.drop i) x out))) := by
  intro j
  induction j with
  | zero =>
    intro i out hi ho hr
    rw [List.drop_of_length_le (by omega), altF]
    refine ww wxd ?_
    unfold wzd
    clear hk
    (repeat' (first | (simp -implicitDefEqProofs (maxSteps := 2000000) (disch := first | with_reducible assumption | omega | (simp only [zS, zA, Nat.reduceEqDiff, Nat.reduceLT, Nat.reduceLeDiff, Nat.reduceAdd, Nat.reduceSub, reduceCtorEq, wab, zD] <;> omega) | fail) only [zS, argl, insA, Go.Den.wm, wo, wu, looks, wfb, web, idOf, riA, Nat.reduceLeDiff, Nat.reduceLT, Nat.reduceEqDiff, Nat.reduceDiv, Nat.reduceMod, Int.reduceLT, Int.reduceLE, Int.reduceEq, Int.reduceNeg, Int.reduceToNat, Int.reduceSub, Int.reduceMul, Int.reduceNe, Nat.reduceAdd, Nat.reduceMul, Nat.reduceSub, Int.reduceAdd, reduceCtorEq, Go.Den.wh, kK, wqd, wab, *, zT]) | (with_reducible (first | apply z1 | apply z2 | apply z3 | apply z4) <;> intro hq <;> (try simp only [zH] at hq) <;> (try (exfalso; omega)))))
  | succ j ih =>
    intro i out hi ho hr
    rw [wlcb kids (by omega), altF]
    have ⟨h1, h4⟩ := hk _ (wykb kids (show i < kids.length by omega)) x hx
    have h3 := hr.add h1.good
    have h5 := row_len h1 hs
    have hadd := wxo out (wpf s bol (kids.getD i Rx.zero) x) ho (by omega) (by have := row_len h3 hs; omega)
    have h2 := ih (i + 1) _ (by omega) (woh (.inl ho)) h3
    refine ww wxd ?_
    unfold wzd
    clear ih hk h3 h1 hr
    (repeat' (first | (simp -implicitDefEqProofs (maxSteps := 2000000) (disch := first | with_reducible assumption | omega | (simp only [zS, zA, Nat.reduceEqDiff, Nat.reduceLT, Nat.reduceLeDiff, Nat.reduceAdd, Nat.reduceSub, reduceCtorEq, wab, wkb, zD] <;> omega) | fail) only [zS, argl, insA, Go.Den.wm, wo, wu, looks, wfb, web, idOf, riA, Nat.reduceLeDiff, Nat.reduceLT, Nat.reduceEqDiff, Nat.reduceDiv, Nat.reduceMod, Int.reduceLT, Int.reduceLE, Int.reduceEq, Int.reduceNeg, Int.reduceToNat, Int.reduceSub, Int.reduceMul, Int.reduceNe, Nat.reduceAdd, Nat.reduceMul, Nat.reduceSub, Int.reduceAdd, reduceCtorEq, Go.Den.wh, kK, wqd, wab, wkb, *, zT]) | (with_reducible (first | apply z1 | apply z2 | apply z3 | apply z4) <;> intro hq <;> (try simp only [zH] at hq) <;> (try (exfalso; omega)))))
    exact h2
set_option maxHeartbeats 4000000 in
theorem wscc (hs : s.length ≤ 12) (x : St) (hx : GdS s.length x) (kids : List Rx) (hll : kids.length ≤ 16000000) (hk : wlgb s bol kids) :
    ∀ (j i : Nat), i + j = kids.length →
    lim Try.prog cfg (.loop 63 0 (wdc 1) (SE (EJ 158 G0) [(110, .int .i64 i), (109, .int .i64 kids.length), (108, FL kids.length (rxsC kids)), (11, .pointer (some ⟨2, 0, none⟩)), (5, .pointer (some ⟨1, 0, none⟩)), (3, .pointer (some ⟨0, 0, none⟩))])) (HP (afN s bol x)) = some (.code (.exit 3) (SE (EJ 158 G0) [(11, .pointer (some ⟨0, 0, none⟩))]), HP (rowO (altF s bol (kids.drop i) x []))) := by
  intro j
  induction j with
  | zero =>
    intro i hi
    rw [List.drop_of_length_le (by omega), altF]
    refine ww wxd ?_
    unfold wzd
    clear hk
    (repeat' (first | (simp -implicitDefEqProofs (maxSteps := 2000000) (disch := first | with_reducible assumption | omega | (simp only [zS, zA, Nat.reduceEqDiff, Nat.reduceLT, Nat.reduceLeDiff, Nat.reduceAdd, Nat.reduceSub, reduceCtorEq, wab, zD] <;> omega) | fail) only [zS, argl, insA, Go.Den.wm, wo, wu, looks, wfb, web, idOf, riA, Nat.reduceLeDiff, Nat.reduceLT, Nat.reduceEqDiff, Nat.reduceDiv, Nat.reduceMod, Int.reduceLT, Int.reduceLE, Int.reduceEq, Int.reduceNeg, Int.reduceToNat, Int.reduceSub, Int.reduceMul, Int.reduceNe, Nat.reduceAdd, Nat.reduceMul, Nat.reduceSub, Int.reduceAdd, reduceCtorEq, Go.Den.wh, kK, wqd, wab, *, zT]) | (with_reducible (first | apply z1 | apply z2 | apply z3 | apply z4) <;> intro hq <;> (try simp only [zH] at hq) <;> (try (exfalso; omega)))))
    all_goals rfl
  | succ j ih =>
    intro i hi
    rw [wlcb kids (by omega), altF]
    have ⟨h1, h4⟩ := hk _ (wykb kids (show i < kids.length by omega)) x hx
    have h3 := (RwS.nil (len := s.length) (a := x.1)).add h1.good
    have h5 := row_len h1 hs
    by_cases hz : wpf s bol (kids.getD i Rx.zero) x = []
    · have h2 := ih (i + 1) (by omega)
      rw [hz] at h4 ⊢
      rw [List.length_nil, wecb] at h4
      refine ww wxd ?_
      unfold wzd
      clear ih hk h3 h1 h5 hz
      (repeat' (first | (simp -implicitDefEqProofs (maxSteps := 2000000) (disch := first | with_reducible assumption | omega | (simp only [zS, zA, Nat.reduceEqDiff, Nat.reduceLT, Nat.reduceLeDiff, Nat.reduceAdd, Nat.reduceSub, reduceCtorEq, wab, wkb, zD] <;> omega) | fail) only [zS, argl, insA, Go.Den.wm, wo, wu, looks, wfb, web, idOf, riA, Nat.reduceLeDiff, Nat.reduceLT, Nat.reduceEqDiff, Nat.reduceDiv, Nat.reduceMod, Int.reduceLT, Int.reduceLE, Int.reduceEq, Int.reduceNeg, Int.reduceToNat, Int.reduceSub, Int.reduceMul, Int.reduceNe, Nat.reduceAdd, Nat.reduceMul, Nat.reduceSub, Int.reduceAdd, reduceCtorEq, Go.Den.wh, kK, wqd, wab, wkb, wfnb, *, zT]) | (with_reducible (first | apply z1 | apply z2 | apply z3 | apply z4) <;> intro hq <;> (try simp only [zH] at hq) <;> (try (exfalso; omega)))))
      exact h2
    · have hadd := wyr (wpf s bol (kids.getD i Rx.zero) x) hz (by omega) (by have := row_len h3 hs; omega)
      have h2 := wrcc s bol hs x hx kids hll hk j (i + 1) (addF [] (wpf s bol (kids.getD i Rx.zero) x)) (by omega) (woh (.inr hz)) h3
      rw [rowO, if_neg (altF_ne s bol _ _ (woh (.inr hz)))]
      refine ww wxd ?_
      unfold wzd
      clear ih hk h3 h1
      (repeat' (first | (simp -implicitDefEqProofs (maxSteps := 2000000) (disch := first | with_reducible assumption | omega | (simp only [zS, zA, Nat.reduceEqDiff, Nat.reduceLT, Nat.reduceLeDiff, Nat.reduceAdd, Nat.reduceSub, reduceCtorEq, wab, wkb, zD] <;> omega) | fail) only [zS, argl, insA, Go.Den.wm, wo, wu, looks, wfb, web, idOf, riA, Nat.reduceLeDiff, Nat.reduceLT, Nat.reduceEqDiff, Nat.reduceDiv, Nat.reduceMod, Int.reduceLT, Int.reduceLE, Int.reduceEq, Int.reduceNeg, Int.reduceToNat, Int.reduceSub, Int.reduceMul, Int.reduceNe, Nat.reduceAdd, Nat.reduceMul, Nat.reduceSub, Int.reduceAdd, reduceCtorEq, Go.Den.wh, kK, wqd, wab, wkb, *, zT]) | (with_reducible (first | apply z1 | apply z2 | apply z3 | apply z4) <;> intro hq <;> (try simp only [zH] at hq) <;> (try (exfalso; omega)))))
      exact h2
set_option maxHeartbeats 4000000 in
theorem cat_loop (hs : s.length ≤ 12) (a : Int) (kids : List Rx) (hll : kids.length ≤ 16000000) (hk : wlgb s bol kids) :
    ∀ (j i : Nat) (l : List St), i + j = kids.length → RwS s.length a l →
    lim Try.prog cfg (.loop 63 0 (wdc 2) (SE (EJ 158 G0) [(130, .int .i64 i), (129, .int .i64 kids.length), (128, FL kids.length (rxsC kids)), (7, FL l.length (stsC l)), (3, .pointer (some ⟨0, 0, none⟩))])) (HP [X [str s, .bool bol] 123 0 true]) = some (.code (.exit 5) (SE (EJ 158 G0) [(7, FL (catF s bol (kids.drop i) l).length (stsC (catF s bol (kids.drop i) l)))]), HP []) := by
  intro j
  induction j with
  | zero =>
    intro i l hi hr
    rw [List.drop_of_length_le (by omega), catF]
    refine ww wdf ?_
    unfold wcf
    clear hk
    (repeat' (first | (simp -implicitDefEqProofs (maxSteps := 2000000) (disch := first | with_reducible assumption | omega | (simp only [zS, zA, Nat.reduceEqDiff, Nat.reduceLT, Nat.reduceLeDiff, Nat.reduceAdd, Nat.reduceSub, reduceCtorEq, wab, zD] <;> omega) | fail) only [zS, argl, insA, Go.Den.wm, wo, wu, looks, wfb, web, idOf, riA, Nat.reduceLeDiff, Nat.reduceLT, Nat.reduceEqDiff, Nat.reduceDiv, Nat.reduceMod, Int.reduceLT, Int.reduceLE, Int.reduceEq, Int.reduceNeg, Int.reduceToNat, Int.reduceSub, Int.reduceMul, Int.reduceNe, Nat.reduceAdd, Nat.reduceMul, Nat.reduceSub, Int.reduceAdd, reduceCtorEq, Go.Den.wh, kK, wce, wab, *, zT]) | (with_reducible (first | apply z1 | apply z2 | apply z3 | apply z4) <;> intro hq <;> (try simp only [zH] at hq) <;> (try (exfalso; omega)))))
  | succ j ih =>
    intro i l hi hr
    rw [wlcb kids (by omega), catF]
    have hw := hk _ (wykb kids (show i < kids.length by omega))
    have hf := wlcc s hs bol (kids.getD i Rx.zero) (fun y => wpf s bol (kids.getD i Rx.zero) y) a l (by have := row_len hr hs; omega) hr.good hw
    have h3 : RwS s.length a (whcb (fun y => wpf s bol (kids.getD i Rx.zero) y) l) := by
      refine RwS.fold _ l (fun z hz y hy => ?_) [] .nil
      have h1 := hr.good z hz
      have h2 := (hw z h1.1).1.good y hy
      exact ⟨h2.1, by omega⟩
    have h2 := ih (i + 1) _ (by omega) h3
    generalize whcb (fun y => wpf s bol (kids.getD i Rx.zero) y) l = l2 at hf h2 ⊢
    refine ww wdf ?_
    unfold wcf
    clear ih hk hw h3
    (repeat' (first | (simp -implicitDefEqProofs (maxSteps := 2000000) (disch := first | with_reducible assumption | omega | (simp only [zS, zA, Nat.reduceEqDiff, Nat.reduceLT, Nat.reduceLeDiff, Nat.reduceAdd, Nat.reduceSub, reduceCtorEq, wab, wkb, zD] <;> omega) | fail) only [zS, argl, insA, Go.Den.wm, wo, wu, looks, wfb, web, idOf, riA, Nat.reduceLeDiff, Nat.reduceLT, Nat.reduceEqDiff, Nat.reduceDiv, Nat.reduceMod, Int.reduceLT, Int.reduceLE, Int.reduceEq, Int.reduceNeg, Int.reduceToNat, Int.reduceSub, Int.reduceMul, Int.reduceNe, Nat.reduceAdd, Nat.reduceMul, Nat.reduceSub, Int.reduceAdd, reduceCtorEq, Go.Den.wh, kK, wce, wab, wkb, *, zT]) | (with_reducible (first | apply z1 | apply z2 | apply z3 | apply z4) <;> intro hq <;> (try simp only [zH] at hq) <;> (try (exfalso; omega)))))
    exact h2
end
end
end Go.Proofs.Ytdbhfmdndiphcaa
namespace Go.Proofs.Ytdbhfmdndiphcaa
set_option linter.unusedVariables false
set_option linter.unusedSimpArgs false
open Go.Den
noncomputable section
theorem wzkb (n : Int) (x : St) (l : List St) : groupW n x l = wzr (fun y => [grpF n x y]) l [] := rfl
section
variable (s : List UInt8) (bol : Bool)
def wtcc (r : Rx) : Prop := ∀ y, GdS s.length y → lim Try.prog cfg (.call 63 [.agg ⟨[str s, .bool bol]⟩, .agg ⟨rxC r⟩, .agg ⟨stC y⟩]) (HP []) = some (.val (FL (wpf s bol r y).length (stsC (wpf s bol r y))), HP [])
set_option maxHeartbeats 8000000 in
theorem wucc (hs : s.length ≤ 12) (k mn mx n : Int) (set : BitVec 256) (kids : List Rx) (hlen : kids.length ≤ 16000000) (hok : okR (.mk k mn mx n set kids) = true) (ih : wlgb s bol kids) : wtcc s bol (.mk k mn mx n set kids) := by
  intro x hx
  have hlo := hx.lo
  have hhi := hx.hi
  have hrow := wicb (s := s) rfl (bol := bol) _ hok x hx
  refine wjc hc wfq (Nat.le_of_ble_eq_true rfl) (Nat.le_of_ble_eq_true rfl) ?_
  unfold wrm
  rw [wpf] at hrow ⊢
  rw [okR, Bool.and_eq_true] at hok
  have hok1 := hok.1
  clear hok
  by_cases h1 : k = 1
  · rw [if_pos h1]
    subst h1
    clear ih hrow hok1
    by_cases hx1 : x.1 < s.length
    · have hhas := ev_Has set ((s.getD x.1.toNat 0).toNat) (by have := (s.getD x.1.toNat 0).toNat_lt; omega)
      by_cases hb : set.getLsbD (s.getD x.1.toNat 0).toNat = true
      · rw [if_pos ⟨hx1, hb⟩]
        rw [hb] at hhas
        (repeat' (first | (simp -implicitDefEqProofs (maxSteps := 2000000) (disch := first | with_reducible assumption | omega | (simp only [zS, zA, Nat.reduceEqDiff, Nat.reduceLT, Nat.reduceLeDiff, Nat.reduceAdd, Nat.reduceSub, reduceCtorEq, wjz, zD] <;> omega) | fail) only [zS, argl, insA, Go.Den.wm, wo, wu, looks, wfb, web, idOf, riA, Nat.reduceLeDiff, Nat.reduceLT, Nat.reduceEqDiff, Nat.reduceDiv, Nat.reduceMod, Int.reduceLT, Int.reduceLE, Int.reduceEq, Int.reduceNeg, Int.reduceToNat, Int.reduceSub, Int.reduceMul, Int.reduceNe, Nat.reduceAdd, Nat.reduceMul, Nat.reduceSub, Int.reduceAdd, reduceCtorEq, Go.Den.wh, kK, *, zT]) | (with_reducible (first | apply z1 | apply z2 | apply z3 | apply z4) <;> intro hq <;> (try simp only [zH] at hq) <;> (try (exfalso; omega))) | (with_reducible apply z5; (case hl => (repeat (first | exact .nil | with_reducible apply z6 | with_reducible apply z7))); (case h => kernel_rfl))))
      · rw [if_neg (fun h => hb h.2)]
        have hb2 : set.getLsbD (s.getD x.1.toNat 0).toNat = false := by simpa using hb
        rw [hb2] at hhas
        clear hb
        (repeat' (first | (simp -implicitDefEqProofs (maxSteps := 2000000) (disch := first | with_reducible assumption | omega | (simp only [zS, zA, Nat.reduceEqDiff, Nat.reduceLT, Nat.reduceLeDiff, Nat.reduceAdd, Nat.reduceSub, reduceCtorEq, zD] <;> omega) | fail) only [zS, argl, insA, Go.Den.wm, wo, wu, looks, wfb, web, idOf, riA, Nat.reduceLeDiff, Nat.reduceLT, Nat.reduceEqDiff, Nat.reduceDiv, Nat.reduceMod, Int.reduceLT, Int.reduceLE, Int.reduceEq, Int.reduceNeg, Int.reduceToNat, Int.reduceSub, Int.reduceMul, Int.reduceNe, Nat.reduceAdd, Nat.reduceMul, Nat.reduceSub, Int.reduceAdd, reduceCtorEq, Go.Den.wh, kK, *, zT]) | (with_reducible (first | apply z1 | apply z2 | apply z3 | apply z4) <;> intro hq <;> (try simp only [zH] at hq) <;> (try (exfalso; omega))) | (with_reducible apply z5; (case hl => (repeat (first | exact .nil | with_reducible apply z6 | with_reducible apply z7))); (case h => kernel_rfl))))
    · rw [if_neg (fun h => hx1 h.1)]
      (repeat' (first | (simp -implicitDefEqProofs (maxSteps := 2000000) (disch := first | with_reducible assumption | omega | (simp only [zS, zA, Nat.reduceEqDiff, Nat.reduceLT, Nat.reduceLeDiff, Nat.reduceAdd, Nat.reduceSub, reduceCtorEq, zD] <;> omega) | fail) only [zS, argl, insA, Go.Den.wm, wo, wu, looks, wfb, web, idOf, riA, Nat.reduceLeDiff, Nat.reduceLT, Nat.reduceEqDiff, Nat.reduceDiv, Nat.reduceMod, Int.reduceLT, Int.reduceLE, Int.reduceEq, Int.reduceNeg, Int.reduceToNat, Int.reduceSub, Int.reduceMul, Int.reduceNe, Nat.reduceAdd, Nat.reduceMul, Nat.reduceSub, Int.reduceAdd, reduceCtorEq, Go.Den.wh, kK, *, zT]) | (with_reducible (first | apply z1 | apply z2 | apply z3 | apply z4) <;> intro hq <;> (try simp only [zH] at hq) <;> (try (exfalso; omega))) | (with_reducible apply z5; (case hl => (repeat (first | exact .nil | with_reducible apply z6 | with_reducible apply z7))); (case h => kernel_rfl))))
  rw [if_neg h1] at hrow ⊢
  by_cases h7 : k = 7
  · rw [if_pos h7]
    subst h7
    clear ih hrow hok1
    by_cases hx1 : x.1 = 0
    · cases bol with
      | true =>
        rw [if_pos ⟨hx1, rfl⟩]
        (repeat' (first | (simp -implicitDefEqProofs (maxSteps := 2000000) (disch := first | with_reducible assumption | omega | (simp only [zS, zA, Nat.reduceEqDiff, Nat.reduceLT, Nat.reduceLeDiff, Nat.reduceAdd, Nat.reduceSub, reduceCtorEq, wqt, zD] <;> omega) | fail) only [zS, argl, insA, Go.Den.wm, wo, wu, looks, wfb, web, idOf, riA, Nat.reduceLeDiff, Nat.reduceLT, Nat.reduceEqDiff, Nat.reduceDiv, Nat.reduceMod, Int.reduceLT, Int.reduceLE, Int.reduceEq, Int.reduceNeg, Int.reduceToNat, Int.reduceSub, Int.reduceMul, Int.reduceNe, Nat.reduceAdd, Nat.reduceMul, Nat.reduceSub, Int.reduceAdd, reduceCtorEq, Go.Den.wh, kK, wab, *, zT]) | (with_reducible (first | apply z1 | apply z2 | apply z3 | apply z4) <;> intro hq <;> (try simp only [zH] at hq) <;> (try (exfalso; omega))) | (with_reducible apply z5; (case hl => (repeat (first | exact .nil | with_reducible apply z6 | with_reducible apply z7))); (case h => kernel_rfl))))
      | false =>
        rw [if_neg (fun h => by cases h.2)]
        (repeat' (first | (simp -implicitDefEqProofs (maxSteps := 2000000) (disch := first | with_reducible assumption | omega | (simp only [zS, zA, Nat.reduceEqDiff, Nat.reduceLT, Nat.reduceLeDiff, Nat.reduceAdd, Nat.reduceSub, reduceCtorEq, zD] <;> omega) | fail) only [zS, argl, insA, Go.Den.wm, wo, wu, looks, wfb, web, idOf, riA, Nat.reduceLeDiff, Nat.reduceLT, Nat.reduceEqDiff, Nat.reduceDiv, Nat.reduceMod, Int.reduceLT, Int.reduceLE, Int.reduceEq, Int.reduceNeg, Int.reduceToNat, Int.reduceSub, Int.reduceMul, Int.reduceNe, Nat.reduceAdd, Nat.reduceMul, Nat.reduceSub, Int.reduceAdd, reduceCtorEq, Go.Den.wh, kK, *, zT]) | (with_reducible (first | apply z1 | apply z2 | apply z3 | apply z4) <;> intro hq <;> (try simp only [zH] at hq) <;> (try (exfalso; omega))) | (with_reducible apply z5; (case hl => (repeat (first | exact .nil | with_reducible apply z6 | with_reducible apply z7))); (case h => kernel_rfl))))
    · rw [if_neg (fun h => hx1 h.1)]
      (repeat' (first | (simp -implicitDefEqProofs (maxSteps := 2000000) (disch := first | with_reducible assumption | omega | (simp only [zS, zA, Nat.reduceEqDiff, Nat.reduceLT, Nat.reduceLeDiff, Nat.reduceAdd, Nat.reduceSub, reduceCtorEq, zD] <;> omega) | fail) only [zS, argl, insA, Go.Den.wm, wo, wu, looks, wfb, web, idOf, riA, Nat.reduceLeDiff, Nat.reduceLT, Nat.reduceEqDiff, Nat.reduceDiv, Nat.reduceMod, Int.reduceLT, Int.reduceLE, Int.reduceEq, Int.reduceNeg, Int.reduceToNat, Int.reduceSub, Int.reduceMul, Int.reduceNe, Nat.reduceAdd, Nat.reduceMul, Nat.reduceSub, Int.reduceAdd, reduceCtorEq, Go.Den.wh, kK, *, zT]) | (with_reducible (first | apply z1 | apply z2 | apply z3 | apply z4) <;> intro hq <;> (try simp only [zH] at hq) <;> (try (exfalso; omega))) | (with_reducible apply z5; (case hl => (repeat (first | exact .nil | with_reducible apply z6 | with_reducible apply z7))); (case h => kernel_rfl))))
  rw [if_neg h7] at hrow ⊢
  by_cases h8 : k = 8
  · rw [if_pos h8]
    subst h8
    clear ih hrow hok1
    by_cases hx1 : x.1 = s.length
    · rw [if_pos hx1]
      (repeat' (first | (simp -implicitDefEqProofs (maxSteps := 2000000) (disch := first | with_reducible assumption | omega | (simp only [zS, zA, Nat.reduceEqDiff, Nat.reduceLT, Nat.reduceLeDiff, Nat.reduceAdd, Nat.reduceSub, reduceCtorEq, wqt, zD] <;> omega) | fail) only [zS, argl, insA, Go.Den.wm, wo, wu, looks, wfb, web, idOf, riA, Nat.reduceLeDiff, Nat.reduceLT, Nat.reduceEqDiff, Nat.reduceDiv, Nat.reduceMod, Int.reduceLT, Int.reduceLE, Int.reduceEq, Int.reduceNeg, Int.reduceToNat, Int.reduceSub, Int.reduceMul, Int.reduceNe, Nat.reduceAdd, Nat.reduceMul, Nat.reduceSub, Int.reduceAdd, reduceCtorEq, Go.Den.wh, kK, *, zT]) | (with_reducible (first | apply z1 | apply z2 | apply z3 | apply z4) <;> intro hq <;> (try simp only [zH] at hq) <;> (try (exfalso; omega))) | (with_reducible apply z5; (case hl => (repeat (first | exact .nil | with_reducible apply z6 | with_reducible apply z7))); (case h => kernel_rfl))))
    · rw [if_neg hx1]
      (repeat' (first | (simp -implicitDefEqProofs (maxSteps := 2000000) (disch := first | with_reducible assumption | omega | (simp only [zS, zA, Nat.reduceEqDiff, Nat.reduceLT, Nat.reduceLeDiff, Nat.reduceAdd, Nat.reduceSub, reduceCtorEq, zD] <;> omega) | fail) only [zS, argl, insA, Go.Den.wm, wo, wu, looks, wfb, web, idOf, riA, Nat.reduceLeDiff, Nat.reduceLT, Nat.reduceEqDiff, Nat.reduceDiv, Nat.reduceMod, Int.reduceLT, Int.reduceLE, Int.reduceEq, Int.reduceNeg, Int.reduceToNat, Int.reduceSub, Int.reduceMul, Int.reduceNe, Nat.reduceAdd, Nat.reduceMul, Nat.reduceSub, Int.reduceAdd, reduceCtorEq, Go.Den.wh, kK, *, zT]) | (with_reducible (first | apply z1 | apply z2 | apply z3 | apply z4) <;> intro hq <;> (try simp only [zH] at hq) <;> (try (exfalso; omega))) | (with_reducible apply z5; (case hl => (repeat (first | exact .nil | with_reducible apply z6 | with_reducible apply z7))); (case h => kernel_rfl))))
  rw [if_neg h8] at hrow ⊢
  by_cases h6 : k = 6
  · rw [if_pos h6]
    rw [if_neg (by omega), if_neg (by omega), if_pos h6] at hok1
    simp only [Bool.and_eq_true, decide_eq_true_eq] at hok1
    subst h6
    clear ih hrow
    have hb := ev_back s (by omega) bol n hok1.1 hok1.2 x hx
    (repeat' (first | (simp -implicitDefEqProofs (maxSteps := 2000000) (disch := first | with_reducible assumption | omega | (simp only [zS, zA, Nat.reduceEqDiff, Nat.reduceLT, Nat.reduceLeDiff, Nat.reduceAdd, Nat.reduceSub, reduceCtorEq, zD] <;> omega) | fail) only [zS, argl, insA, Go.Den.wm, wo, wu, looks, wfb, web, idOf, riA, Nat.reduceLeDiff, Nat.reduceLT, Nat.reduceEqDiff, Nat.reduceDiv, Nat.reduceMod, Int.reduceLT, Int.reduceLE, Int.reduceEq, Int.reduceNeg, Int.reduceToNat, Int.reduceSub, Int.reduceMul, Int.reduceNe, Nat.reduceAdd, Nat.reduceMul, Nat.reduceSub, Int.reduceAdd, reduceCtorEq, Go.Den.wh, kK, *, zT]) | (with_reducible (first | apply z1 | apply z2 | apply z3 | apply z4) <;> intro hq <;> (try simp only [zH] at hq) <;> (try (exfalso; omega))) | (with_reducible apply z5; (case hl => (repeat (first | exact .nil | with_reducible apply z6 | with_reducible apply z7))); (case h => kernel_rfl))))
  rw [if_neg h6] at hrow ⊢
  by_cases h5 : k = 5
  · rw [if_pos h5] at hrow ⊢
    rw [if_pos h5] at hok1
    simp only [Bool.and_eq_true, decide_eq_true_eq] at hok1
    subst h5
    cases kids with
    | nil => exact absurd rfl hok1.1
    | cons kid rest =>
      rw [kidF, wzkb]
      have ⟨r1, r2⟩ := ih kid (List.mem_cons_self ..) x hx
      have r3 := row_len r1 hs
      have hl := wqcc s hs (.mk 5 mn mx n set (kid :: rest)) hok1.2.1 hok1.2.2 x hx (wpf s bol kid x) (by omega) r1.good
      have hk : slotsOf (rxsC (kid :: rest)) 0 9 = rxC kid := by
        have := wwo (l := kid :: rest) (i := 0) (by simp)
        rwa [Nat.zero_mul] at this
      rw [rx_n] at hl
      clear ih r1 hrow
      generalize wzr (fun y => [grpF n x y]) (wpf s bol kid x) [] = out at hl ⊢
      by_cases ho : out = []
      · subst ho
        rw [rowO, if_pos rfl] at hl
        (repeat' (first | (simp -implicitDefEqProofs (maxSteps := 2000000) (disch := first | with_reducible assumption | omega | (simp only [zS, zA, Nat.reduceEqDiff, Nat.reduceLT, Nat.reduceLeDiff, Nat.reduceAdd, Nat.reduceSub, reduceCtorEq, wab, wkb, zD] <;> omega) | fail) only [zS, argl, insA, Go.Den.wm, wo, wu, looks, wfb, web, idOf, riA, Nat.reduceLeDiff, Nat.reduceLT, Nat.reduceEqDiff, Nat.reduceDiv, Nat.reduceMod, Int.reduceLT, Int.reduceLE, Int.reduceEq, Int.reduceNeg, Int.reduceToNat, Int.reduceSub, Int.reduceMul, Int.reduceNe, Nat.reduceAdd, Nat.reduceMul, Nat.reduceSub, Int.reduceAdd, reduceCtorEq, Go.Den.wh, kK, wbe, wab, wkb, wbj, *, zT]) | (with_reducible (first | apply z1 | apply z2 | apply z3 | apply z4) <;> intro hq <;> (try simp only [zH] at hq) <;> (try (exfalso; omega))) | (with_reducible apply z5; (case hl => (repeat (first | exact .nil | with_reducible apply z6 | with_reducible apply z7))); (case h => kernel_rfl))))
      · rw [rowO, if_neg ho] at hl
        (repeat' (first | (simp -implicitDefEqProofs (maxSteps := 2000000) (disch := first | with_reducible assumption | omega | (simp only [zS, zA, Nat.reduceEqDiff, Nat.reduceLT, Nat.reduceLeDiff, Nat.reduceAdd, Nat.reduceSub, reduceCtorEq, wab, wkb, zD] <;> omega) | fail) only [zS, argl, insA, Go.Den.wm, wo, wu, looks, wfb, web, idOf, riA, Nat.reduceLeDiff, Nat.reduceLT, Nat.reduceEqDiff, Nat.reduceDiv, Nat.reduceMod, Int.reduceLT, Int.reduceLE, Int.reduceEq, Int.reduceNeg, Int.reduceToNat, Int.reduceSub, Int.reduceMul, Int.reduceNe, Nat.reduceAdd, Nat.reduceMul, Nat.reduceSub, Int.reduceAdd, reduceCtorEq, Go.Den.wh, kK, wbe, wab, wkb, wbj, *, zT]) | (with_reducible (first | apply z1 | apply z2 | apply z3 | apply z4) <;> intro hq <;> (try simp only [zH] at hq) <;> (try (exfalso; omega))) | (with_reducible apply z5; (case hl => (repeat (first | exact .nil | with_reducible apply z6 | with_reducible apply z7))); (case h => kernel_rfl))))
  rw [if_neg h5] at hrow ⊢
  by_cases h3 : k = 3
  · rw [if_pos h3]
    subst h3
    have hl := wscc s bol hs x hx kids hlen ih kids.length 0 (by omega)
    rw [List.drop_zero, show ((0 : Nat) : Int) = 0 from rfl] at hl
    clear ih hrow hok1
    generalize altF s bol kids x [] = out at hl ⊢
    by_cases ho : out = []
    · subst ho
      rw [rowO, if_pos rfl] at hl
      (repeat' (first | (simp -implicitDefEqProofs (maxSteps := 2000000) (disch := first | with_reducible assumption | omega | (simp only [zS, zA, Nat.reduceEqDiff, Nat.reduceLT, Nat.reduceLeDiff, Nat.reduceAdd, Nat.reduceSub, reduceCtorEq, wab, wkb, zD] <;> omega) | fail) only [zS, argl, insA, Go.Den.wm, wo, wu, looks, wfb, web, idOf, riA, Nat.reduceLeDiff, Nat.reduceLT, Nat.reduceEqDiff, Nat.reduceDiv, Nat.reduceMod, Int.reduceLT, Int.reduceLE, Int.reduceEq, Int.reduceNeg, Int.reduceToNat, Int.reduceSub, Int.reduceMul, Int.reduceNe, Nat.reduceAdd, Nat.reduceMul, Nat.reduceSub, Int.reduceAdd, reduceCtorEq, Go.Den.wh, kK, wqd, wab, wkb, wbj, *, zT]) | (with_reducible (first | apply z1 | apply z2 | apply z3 | apply z4) <;> intro hq <;> (try simp only [zH] at hq) <;> (try (exfalso; omega))) | (with_reducible apply z5; (case hl => (repeat (first | exact .nil | with_reducible apply z6 | with_reducible apply z7))); (case h => kernel_rfl))))
    · rw [rowO, if_neg ho] at hl
      (repeat' (first | (simp -implicitDefEqProofs (maxSteps := 2000000) (disch := first | with_reducible assumption | omega | (simp only [zS, zA, Nat.reduceEqDiff, Nat.reduceLT, Nat.reduceLeDiff, Nat.reduceAdd, Nat.reduceSub, reduceCtorEq, wab, wkb, zD] <;> omega) | fail) only [zS, argl, insA, Go.Den.wm, wo, wu, looks, wfb, web, idOf, riA, Nat.reduceLeDiff, Nat.reduceLT, Nat.reduceEqDiff, Nat.reduceDiv, Nat.reduceMod, Int.reduceLT, Int.reduceLE, Int.reduceEq, Int.reduceNeg, Int.reduceToNat, Int.reduceSub, Int.reduceMul, Int.reduceNe, Nat.reduceAdd, Nat.reduceMul, Nat.reduceSub, Int.reduceAdd, reduceCtorEq, Go.Den.wh, kK, wqd, wab, wkb, wbj, *, zT]) | (with_reducible (first | apply z1 | apply z2 | apply z3 | apply z4) <;> intro hq <;> (try simp only [zH] at hq) <;> (try (exfalso; omega))) | (with_reducible apply z5; (case hl => (repeat (first | exact .nil | with_reducible apply z6 | with_reducible apply z7))); (case h => kernel_rfl))))
  rw [if_neg h3] at hrow ⊢
  by_cases h2 : k = 2
  · rw [if_pos h2]
    subst h2
    cases kids with
    | nil =>
      rw [catF]
      have hl : lim Try.prog cfg (.loop 63 0 (wdc 2) (SE (EJ 158 G0) [(130, .int .i64 0), (129, .int .i64 0), (128, FL 0 []), (7, .slice (some ⟨1, 0, none⟩) 1 2), (3, .pointer (some ⟨0, 0, none⟩))])) (HP [X [str s, .bool bol] 123 0 true, X (stC x) 113 0 true]) = some (.code (.exit 5) (SE (EJ 158 G0) [(7, .slice (some ⟨0, 0, none⟩) 1 2)]), HP [X (stC x) 113 0 true]) := by
        refine ww wdf ?_
        unfold wcf
        clear ih hrow
        (repeat' (first | (simp -implicitDefEqProofs (maxSteps := 2000000) (disch := first | with_reducible assumption | omega | (simp only [zS, zA, Nat.reduceEqDiff, Nat.reduceLT, Nat.reduceLeDiff, Nat.reduceAdd, Nat.reduceSub, reduceCtorEq, zD] <;> omega) | fail) only [zS, argl, insA, Go.Den.wm, wo, wu, looks, wfb, web, idOf, riA, Nat.reduceLeDiff, Nat.reduceLT, Nat.reduceEqDiff, Nat.reduceDiv, Nat.reduceMod, Int.reduceLT, Int.reduceLE, Int.reduceEq, Int.reduceNeg, Int.reduceToNat, Int.reduceSub, Int.reduceMul, Int.reduceNe, Nat.reduceAdd, Nat.reduceMul, Nat.reduceSub, Int.reduceAdd, reduceCtorEq, Go.Den.wh, kK, wce, *, zT]) | (with_reducible (first | apply z1 | apply z2 | apply z3 | apply z4) <;> intro hq <;> (try simp only [zH] at hq) <;> (try (exfalso; omega))) | (with_reducible apply z5; (case hl => (repeat (first | exact .nil | with_reducible apply z6 | with_reducible apply z7))); (case h => kernel_rfl))))
      clear ih hrow hok1
      (repeat' (first | (simp -implicitDefEqProofs (maxSteps := 2000000) (disch := first | with_reducible assumption | omega | (simp only [zS, zA, Nat.reduceEqDiff, Nat.reduceLT, Nat.reduceLeDiff, Nat.reduceAdd, Nat.reduceSub, reduceCtorEq, zD] <;> omega) | fail) only [zS, argl, insA, Go.Den.wm, wo, wu, looks, wfb, web, idOf, riA, Nat.reduceLeDiff, Nat.reduceLT, Nat.reduceEqDiff, Nat.reduceDiv, Nat.reduceMod, Int.reduceLT, Int.reduceLE, Int.reduceEq, Int.reduceNeg, Int.reduceToNat, Int.reduceSub, Int.reduceMul, Int.reduceNe, Nat.reduceAdd, Nat.reduceMul, Nat.reduceSub, Int.reduceAdd, reduceCtorEq, Go.Den.wh, kK, wce, rxsC, Int.natCast_zero, *, zT]) | (with_reducible (first | apply z1 | apply z2 | apply z3 | apply z4) <;> intro hq <;> (try simp only [zH] at hq) <;> (try (exfalso; omega))) | (with_reducible apply z5; (case hl => (repeat (first | exact .nil | with_reducible apply z6 | with_reducible apply z7))); (case h => kernel_rfl))))
    | cons kid rest =>
      rw [catF]
      have hw := ih kid (List.mem_cons_self ..)
      have hf := wlcc s hs bol kid (fun y => wpf s bol kid y) x.1 [x] (by simp) (fun y hy => by rw [List.mem_singleton] at hy; subst hy; exact ⟨hx, Int.le_refl _⟩) hw
      have hr : RwS s.length x.1 (whcb (fun y => wpf s bol kid y) [x]) := by
        refine RwS.fold _ [x] (fun z hz y hy => ?_) [] .nil
        rw [List.mem_singleton] at hz
        subst hz
        exact (hw z hx).1.good y hy
      have hl := cat_loop s bol hs x.1 (kid :: rest) hlen ih rest.length 1 _ (by simp; omega) hr
      rw [show (kid :: rest).drop 1 = rest from rfl, show ((1 : Nat) : Int) = 1 from rfl] at hl
      rw [wdg, show [x].length = 1 from rfl] at hf
      have hk : slotsOf (rxsC (kid :: rest)) 0 9 = rxC kid := by
        have := wwo (l := kid :: rest) (i := 0) (by simp)
        rwa [Nat.zero_mul] at this
      have hkl : 0 < (kid :: rest).length := by simp
      have hkc : 9 ≤ (rxsC (kid :: rest)).length := by rw [wsw, List.length_cons]; omega
      rw [List.length_cons] at hl
      generalize whcb (fun y => wpf s bol kid y) [x] = l1 at hf hl ⊢
      have hl0 : lim Try.prog cfg (.loop 63 0 (wdc 2) (SE (EJ 158 G0) [(130, .int .i64 0), (129, .int .i64 (rest.length + 1 : Nat)), (128, FL (rest.length + 1) (rxsC (kid :: rest))), (7, .slice (some ⟨1, 0, none⟩) 1 2), (3, .pointer (some ⟨0, 0, none⟩))])) (HP [X [str s, .bool bol] 123 0 true, X (stC x) 113 0 true]) = some (.code (.exit 5) (SE (EJ 158 G0) [(7, FL (catF s bol rest l1).length (stsC (catF s bol rest l1)))]), HP []) := by
        refine ww wdf ?_
        unfold wcf
        clear ih hrow hw hok1
        generalize rxsC (kid :: rest) = KC at *
        (repeat' (first | (simp -implicitDefEqProofs (maxSteps := 2000000) (disch := first | with_reducible assumption | omega | (simp only [zS, zA, Nat.reduceEqDiff, Nat.reduceLT, Nat.reduceLeDiff, Nat.reduceAdd, Nat.reduceSub, reduceCtorEq, zD] <;> omega) | fail) only [zS, argl, insA, Go.Den.wm, wo, wu, looks, wfb, web, idOf, riA, Nat.reduceLeDiff, Nat.reduceLT, Nat.reduceEqDiff, Nat.reduceDiv, Nat.reduceMod, Int.reduceLT, Int.reduceLE, Int.reduceEq, Int.reduceNeg, Int.reduceToNat, Int.reduceSub, Int.reduceMul, Int.reduceNe, Nat.reduceAdd, Nat.reduceMul, Nat.reduceSub, Int.reduceAdd, reduceCtorEq, Go.Den.wh, kK, wce, *, zT]) | (with_reducible (first | apply z1 | apply z2 | apply z3 | apply z4) <;> intro hq <;> (try simp only [zH] at hq) <;> (try (exfalso; omega))) | (with_reducible apply z5; (case hl => (repeat (first | exact .nil | with_reducible apply z6 | with_reducible apply z7))); (case h => kernel_rfl))))
      clear ih hrow hok1 hw hl hf
      (repeat' (first | (simp -implicitDefEqProofs (maxSteps := 2000000) (disch := first | with_reducible assumption | omega | (simp only [zS, zA, Nat.reduceEqDiff, Nat.reduceLT, Nat.reduceLeDiff, Nat.reduceAdd, Nat.reduceSub, reduceCtorEq, zD] <;> omega) | fail) only [zS, argl, insA, Go.Den.wm, wo, wu, looks, wfb, web, idOf, riA, Nat.reduceLeDiff, Nat.reduceLT, Nat.reduceEqDiff, Nat.reduceDiv, Nat.reduceMod, Int.reduceLT, Int.reduceLE, Int.reduceEq, Int.reduceNeg, Int.reduceToNat, Int.reduceSub, Int.reduceMul, Int.reduceNe, Nat.reduceAdd, Nat.reduceMul, Nat.reduceSub, Int.reduceAdd, reduceCtorEq, Go.Den.wh, kK, wce, *, zT]) | (with_reducible (first | apply z1 | apply z2 | apply z3 | apply z4) <;> intro hq <;> (try simp only [zH] at hq) <;> (try (exfalso; omega))) | (with_reducible apply z5; (case hl => (repeat (first | exact .nil | with_reducible apply z6 | with_reducible apply z7))); (case h => kernel_rfl))))
  rw [if_neg h2] at hrow ⊢
  by_cases h4 : k = 4
  · rw [if_pos h4]
    rw [if_neg (by omega), if_pos h4] at hok1
    simp only [Bool.and_eq_true, decide_eq_true_eq] at hok1
    subst h4
    cases kids with
    | nil => exact absurd rfl hok1.1
    | cons kid rest =>
      have hw := ih kid (List.mem_cons_self ..)
      have hk : slotsOf (rxsC (kid :: rest)) 0 9 = rxC kid := by
        have := wwo (l := kid :: rest) (i := 0) (by simp)
        rwa [Nat.zero_mul] at this
      have hf : (fun y => kidF s bol (kid :: rest) y) = fun y => wpf s bol kid y := by funext y; rw [kidF]
      rw [hf]
      have hon := (on_all s bol mn mx n set (kid :: rest) hs ⟨hok1.2.1, hok1.2.2.1⟩ hok1.2.2.2.2 (fun y => wpf s bol kid y) x.1 ⟨kid, hk, by simp, hw⟩ 100).2 0 x [] (by omega) (by omega) hx (Int.le_refl _) (by unfold muF; split <;> omega)
      rcases hq : onF (fun y => wpf s bol kid y) mn mx 100 0 x ([], []) with ⟨met, out⟩
      rw [hq] at hon
      clear ih hrow hw hk hf hq hok1
      by_cases ho : out = []
      · subst ho
        rw [reO, if_pos rfl] at hon
        simp only [reN, repB, wdnb, List.length_cons] at hon
        (repeat' (first | (simp -implicitDefEqProofs (maxSteps := 2000000) (disch := first | with_reducible assumption | omega | (simp only [zS, zA, Nat.reduceEqDiff, Nat.reduceLT, Nat.reduceLeDiff, Nat.reduceAdd, Nat.reduceSub, reduceCtorEq, wab, wkb, wwb, zD] <;> omega) | fail) only [zS, argl, insA, Go.Den.wm, wo, wu, looks, wfb, web, idOf, riA, Nat.reduceLeDiff, Nat.reduceLT, Nat.reduceEqDiff, Nat.reduceDiv, Nat.reduceMod, Int.reduceLT, Int.reduceLE, Int.reduceEq, Int.reduceNeg, Int.reduceToNat, Int.reduceSub, Int.reduceMul, Int.reduceNe, Nat.reduceAdd, Nat.reduceMul, Nat.reduceSub, Int.reduceAdd, reduceCtorEq, Go.Den.wh, kK, wab, wkb, wwb, wbj, wrw, wof, *, zT]) | (with_reducible (first | apply z1 | apply z2 | apply z3 | apply z4) <;> intro hq <;> (try simp only [zH] at hq) <;> (try (exfalso; omega))) | (with_reducible apply z5; (case hl => (repeat (first | exact .nil | with_reducible apply z6 | with_reducible apply z7))); (case h => kernel_rfl))))
      · rw [reO, if_neg ho] at hon
        simp only [reE, reN, repB, wdnb, List.length_cons] at hon
        (repeat' (first | (simp -implicitDefEqProofs (maxSteps := 2000000) (disch := first | with_reducible assumption | omega | (simp only [zS, zA, Nat.reduceEqDiff, Nat.reduceLT, Nat.reduceLeDiff, Nat.reduceAdd, Nat.reduceSub, reduceCtorEq, wab, wkb, wwb, zD] <;> omega) | fail) only [zS, argl, insA, Go.Den.wm, wo, wu, looks, wfb, web, idOf, riA, Nat.reduceLeDiff, Nat.reduceLT, Nat.reduceEqDiff, Nat.reduceDiv, Nat.reduceMod, Int.reduceLT, Int.reduceLE, Int.reduceEq, Int.reduceNeg, Int.reduceToNat, Int.reduceSub, Int.reduceMul, Int.reduceNe, Nat.reduceAdd, Nat.reduceMul, Nat.reduceSub, Int.reduceAdd, reduceCtorEq, Go.Den.wh, kK, wab, wkb, wwb, wbj, wrw, wof, *, zT]) | (with_reducible (first | apply z1 | apply z2 | apply z3 | apply z4) <;> intro hq <;> (try simp only [zH] at hq) <;> (try (exfalso; omega))) | (with_reducible apply z5; (case hl => (repeat (first | exact .nil | with_reducible apply z6 | with_reducible apply z7))); (case h => kernel_rfl))))
  rw [if_neg h4]
  clear ih hrow hok1
  (repeat' (first | (simp -implicitDefEqProofs (maxSteps := 2000000) (disch := first | with_reducible assumption | omega | (simp only [zS, zA, Nat.reduceEqDiff, Nat.reduceLT, Nat.reduceLeDiff, Nat.reduceAdd, Nat.reduceSub, reduceCtorEq, zD] <;> omega) | fail) only [zS, argl, insA, Go.Den.wm, wo, wu, looks, wfb, web, idOf, riA, Nat.reduceLeDiff, Nat.reduceLT, Nat.reduceEqDiff, Nat.reduceDiv, Nat.reduceMod, Int.reduceLT, Int.reduceLE, Int.reduceEq, Int.reduceNeg, Int.reduceToNat, Int.reduceSub, Int.reduceMul, Int.reduceNe, Nat.reduceAdd, Nat.reduceMul, Nat.reduceSub, Int.reduceAdd, reduceCtorEq, Go.Den.wh, kK, *, zT]) | (with_reducible (first | apply z1 | apply z2 | apply z3 | apply z4) <;> intro hq <;> (try simp only [zH] at hq) <;> (try (exfalso; omega))) | (with_reducible apply z5; (case hl => (repeat (first | exact .nil | with_reducible apply z6 | with_reducible apply z7))); (case h => kernel_rfl))))
end
end
end Go.Proofs.Ytdbhfmdndiphcaa
namespace Go.Proofs.Ytdbhfmdndiphcaa
set_option linter.unusedVariables false
set_option linter.unusedSimpArgs false
open Go.Den
noncomputable section
abbrev ints (l : List Int) : List Value := l.map (Value.int .i64)
theorem wmcb {l : List Int} {i : Nat} (h : i < l.length) : (ints l)[i]? = some (.int .i64 (l.getD i 0)) := by
  rw [ints, List.getElem?_map, List.getD_eq_getElem?_getD, List.getElem?_eq_getElem h]; rfl
theorem wqb {l : List Int} : (ints l).length = l.length := List.length_map ..
theorem int_drop (l : List Int) {i : Nat} (h : i < l.length) : l.drop i = l.getD i 0 :: l.drop (i + 1) := by
  rw [List.drop_eq_getElem_cons h, List.getD_eq_getElem?_getD, List.getElem?_eq_getElem h]; rfl
theorem wus (l : List Rx) {i : Nat} (h : i < l.length) : l.drop i = l.getD i Rx.zero :: l.drop (i + 1) := by
  rw [List.drop_eq_getElem_cons h, List.getD_eq_getElem?_getD, List.getElem?_eq_getElem h]; rfl
def fstF {α : Type} (p : α → Bool) : List α → Nat → Option Nat
  | [], _ => none
  | a :: l, i => if p a = true then some i else fstF p l (i + 1)
def fstV : Option Nat → Int
  | none => -1
  | some j => j
theorem wvcc {α : Type} (p : α → Bool) : ∀ (l : List α) (i : Nat), decide (0 ≤ fstV (fstF p l i)) = l.any p := by
  intro l
  induction l with
  | nil => intro i; rfl
  | cons a l ih =>
    intro i
    rw [fstF, List.any_cons]
    by_cases h : p a = true
    · rw [if_pos h, h]; simp [fstV]
    · rw [if_neg h, ih]; simp [h]
theorem wmb {P : Program} {cs : wnc} {R : Type} {K : KR R} {d : Option Tmp} {l : List RO} {e : Env} {H : AH} {wr : List Nat} {want : Bool} {x : ARes} : wlfb P cs K d l e H wr want x undef = opsR P cs K l (e.put d undef) H := by cases want <;> rfl
theorem wrb {want : Bool} : wvp want undef = some false := by cases want <;> rfl
theorem wbb : refs JK = [] := rfl
theorem wib {m : Nm} : renV m JK = JK := rfl
theorem ej19 : (EJ 19 G0).get 4 = JK := rfl
def fstO (n : Nat) : Option Nat → Option (Out × AH)
  | none => some (.code (.exit 0) (SE (EJ n G0) [(4, JK)]), HP [])
  | some j => some (.code .ret (SE (EJ n G0) [(4, .int .i64 j)]), HP [])
theorem idx_loop (l : List Int) (hl : l.length ≤ 16000000) (v : Int) : ∀ (k i : Nat), i + k = l.length →
    lim Try.prog cfg (.loop 158 0 (wfe 0) (SE (EJ 19 G0) [(8, .int .i64 i), (7, .int .i64 l.length), (1, .int .i64 v), (0, FL l.length (ints l))])) (HP []) = fstO 19 (fstF (fun a => decide (v = a)) (l.drop i) i) := by
  intro k
  induction k with
  | zero =>
    intro i hi
    rw [List.drop_of_length_le (by omega), fstF, fstO]
    refine ww wld ?_
    unfold wgd
    (repeat' (first | (simp -implicitDefEqProofs (maxSteps := 2000000) (disch := first | with_reducible assumption | omega | (simp only [zS, zA, Nat.reduceEqDiff, Nat.reduceLT, Nat.reduceLeDiff, Nat.reduceAdd, Nat.reduceSub, reduceCtorEq, wbb, wib] <;> omega) | fail) only [zS, argl, insA, Go.Den.wm, wo, wu, looks, wfb, web, idOf, riA, Nat.reduceLeDiff, Nat.reduceLT, Nat.reduceEqDiff, Nat.reduceDiv, Nat.reduceMod, Int.reduceLT, Int.reduceLE, Int.reduceEq, Int.reduceNeg, Int.reduceToNat, Int.reduceSub, Int.reduceMul, Int.reduceNe, Nat.reduceAdd, Nat.reduceMul, Nat.reduceSub, Int.reduceAdd, reduceCtorEq, Go.Den.wh, kK, wxc, wqb, wbb, wib, ej19, *]) | (with_reducible (first | apply z1 | apply z2 | apply z3 | apply z4) <;> intro hq <;> (try simp only [zH] at hq) <;> (try (exfalso; omega)))))
  | succ k ih =>
    intro i hi
    rw [int_drop l (by omega), fstF]
    have h := ih (i + 1) (by omega)
    clear ih
    have hg := wmcb (l := l) (i := i) (by omega)
    by_cases hv : v = l.getD i 0
    · rw [if_pos (by simpa using hv), fstO]
      clear h
      refine ww wld ?_
      unfold wgd
      (repeat' (first | (simp -implicitDefEqProofs (maxSteps := 2000000) (disch := first | with_reducible assumption | omega | (simp only [zS, zA, Nat.reduceEqDiff, Nat.reduceLT, Nat.reduceLeDiff, Nat.reduceAdd, Nat.reduceSub, reduceCtorEq, wbb, wib] <;> omega) | fail) only [zS, argl, insA, Go.Den.wm, wo, wu, looks, wfb, web, idOf, riA, Nat.reduceLeDiff, Nat.reduceLT, Nat.reduceEqDiff, Nat.reduceDiv, Nat.reduceMod, Int.reduceLT, Int.reduceLE, Int.reduceEq, Int.reduceNeg, Int.reduceToNat, Int.reduceSub, Int.reduceMul, Int.reduceNe, Nat.reduceAdd, Nat.reduceMul, Nat.reduceSub, Int.reduceAdd, reduceCtorEq, Go.Den.wh, kK, wxc, wqb, wbb, wib, ej19, *]) | (with_reducible (first | apply z1 | apply z2 | apply z3 | apply z4) <;> intro hq <;> (try simp only [zH] at hq) <;> (try (exfalso; omega)))))
    · rw [if_neg (by simpa using hv)]
      generalize fstF (fun a => decide (v = a)) (l.drop (i + 1)) (i + 1) = o at h ⊢
      cases o with
      | none =>
        rw [fstO] at h ⊢
        refine ww wld ?_
        unfold wgd
        (repeat' (first | (simp -implicitDefEqProofs (maxSteps := 2000000) (disch := first | with_reducible assumption | omega | (simp only [zS, zA, Nat.reduceEqDiff, Nat.reduceLT, Nat.reduceLeDiff, Nat.reduceAdd, Nat.reduceSub, reduceCtorEq, wbb, wib] <;> omega) | fail) only [zS, argl, insA, Go.Den.wm, wo, wu, looks, wfb, web, idOf, riA, Nat.reduceLeDiff, Nat.reduceLT, Nat.reduceEqDiff, Nat.reduceDiv, Nat.reduceMod, Int.reduceLT, Int.reduceLE, Int.reduceEq, Int.reduceNeg, Int.reduceToNat, Int.reduceSub, Int.reduceMul, Int.reduceNe, Nat.reduceAdd, Nat.reduceMul, Nat.reduceSub, Int.reduceAdd, reduceCtorEq, Go.Den.wh, kK, wxc, wqb, wbb, wib, ej19, *]) | (with_reducible (first | apply z1 | apply z2 | apply z3 | apply z4) <;> intro hq <;> (try simp only [zH] at hq) <;> (try (exfalso; omega)))))
        exact h
      | some j =>
        rw [fstO] at h ⊢
        refine ww wld ?_
        unfold wgd
        (repeat' (first | (simp -implicitDefEqProofs (maxSteps := 2000000) (disch := first | with_reducible assumption | omega | (simp only [zS, zA, Nat.reduceEqDiff, Nat.reduceLT, Nat.reduceLeDiff, Nat.reduceAdd, Nat.reduceSub, reduceCtorEq, wbb, wib] <;> omega) | fail) only [zS, argl, insA, Go.Den.wm, wo, wu, looks, wfb, web, idOf, riA, Nat.reduceLeDiff, Nat.reduceLT, Nat.reduceEqDiff, Nat.reduceDiv, Nat.reduceMod, Int.reduceLT, Int.reduceLE, Int.reduceEq, Int.reduceNeg, Int.reduceToNat, Int.reduceSub, Int.reduceMul, Int.reduceNe, Nat.reduceAdd, Nat.reduceMul, Nat.reduceSub, Int.reduceAdd, reduceCtorEq, Go.Den.wh, kK, wxc, wqb, wbb, wib, ej19, *]) | (with_reducible (first | apply z1 | apply z2 | apply z3 | apply z4) <;> intro hq <;> (try simp only [zH] at hq) <;> (try (exfalso; omega)))))
        exact h
theorem ev_Index (l : List Int) (hl : l.length ≤ 16000000) (v : Int) : lim Try.prog cfg (.call 158 [FL l.length (ints l), .int .i64 v]) (HP []) = some (.val (.int .i64 (fstV (fstF (fun a => decide (v = a)) l 0))), HP []) := by
  refine wjc hc whk (Nat.le_of_ble_eq_true rfl) (Nat.le_of_ble_eq_true rfl) ?_
  unfold wbi
  have h := idx_loop l hl v l.length 0 (by omega)
  rw [List.drop_zero, show ((0 : Nat) : Int) = 0 from rfl] at h
  generalize fstF (fun a => decide (v = a)) l 0 = o at h ⊢
  rcases o with _ | j
  · rw [fstO] at h
    (repeat' (first | (simp -implicitDefEqProofs (maxSteps := 2000000) (disch := first | with_reducible assumption | omega | (simp only [zS, zA, Nat.reduceEqDiff, Nat.reduceLT, Nat.reduceLeDiff, Nat.reduceAdd, Nat.reduceSub, reduceCtorEq, wbb, wib] <;> omega) | fail) only [zS, argl, insA, Go.Den.wm, wo, wu, looks, wfb, web, idOf, riA, Nat.reduceLeDiff, Nat.reduceLT, Nat.reduceEqDiff, Nat.reduceDiv, Nat.reduceMod, Int.reduceLT, Int.reduceLE, Int.reduceEq, Int.reduceNeg, Int.reduceToNat, Int.reduceSub, Int.reduceMul, Int.reduceNe, Nat.reduceAdd, Nat.reduceMul, Nat.reduceSub, Int.reduceAdd, reduceCtorEq, Go.Den.wh, kK, wxc, wqb, wbb, wib, ej19, fstV, *]) | (with_reducible (first | apply z1 | apply z2 | apply z3 | apply z4) <;> intro hq <;> (try simp only [zH] at hq) <;> (try (exfalso; omega)))))
  · rw [fstO] at h
    (repeat' (first | (simp -implicitDefEqProofs (maxSteps := 2000000) (disch := first | with_reducible assumption | omega | (simp only [zS, zA, Nat.reduceEqDiff, Nat.reduceLT, Nat.reduceLeDiff, Nat.reduceAdd, Nat.reduceSub, reduceCtorEq, wbb, wib] <;> omega) | fail) only [zS, argl, insA, Go.Den.wm, wo, wu, looks, wfb, web, idOf, riA, Nat.reduceLeDiff, Nat.reduceLT, Nat.reduceEqDiff, Nat.reduceDiv, Nat.reduceMod, Int.reduceLT, Int.reduceLE, Int.reduceEq, Int.reduceNeg, Int.reduceToNat, Int.reduceSub, Int.reduceMul, Int.reduceNe, Nat.reduceAdd, Nat.reduceMul, Nat.reduceSub, Int.reduceAdd, reduceCtorEq, Go.Den.wh, kK, wxc, wqb, wbb, wib, ej19, fstV, *]) | (with_reducible (first | apply z1 | apply z2 | apply z3 | apply z4) <;> intro hq <;> (try simp only [zH] at hq) <;> (try (exfalso; omega)))))
theorem walb (l : List Int) (hl : l.length ≤ 16000000) (v : Int) : lim Try.prog cfg (.call 149 [FL l.length (ints l), .int .i64 v]) (HP []) = some (.val (.bool (l.any fun a => decide (v = a))), HP []) := by
  refine wjc hc wfj (Nat.le_of_ble_eq_true rfl) (Nat.le_of_ble_eq_true rfl) ?_
  unfold wyg
  have h := ev_Index l hl v
  rw [← wvcc _ l 0]
  generalize fstV (fstF (fun a => decide (v = a)) l 0) = z at h ⊢
  (repeat' (first | (simp -implicitDefEqProofs (maxSteps := 2000000) (disch := first | with_reducible assumption | omega | (simp only [zS, zA, Nat.reduceEqDiff, Nat.reduceLT, Nat.reduceLeDiff, Nat.reduceAdd, Nat.reduceSub, reduceCtorEq] <;> omega) | fail) only [zS, argl, insA, Go.Den.wm, wo, wu, looks, wfb, web, idOf, riA, Nat.reduceLeDiff, Nat.reduceLT, Nat.reduceEqDiff, Nat.reduceDiv, Nat.reduceMod, Int.reduceLT, Int.reduceLE, Int.reduceEq, Int.reduceNeg, Int.reduceToNat, Int.reduceSub, Int.reduceMul, Int.reduceNe, Nat.reduceAdd, Nat.reduceMul, Nat.reduceSub, Int.reduceAdd, reduceCtorEq, Go.Den.wh, kK, *]) | (with_reducible (first | apply z1 | apply z2 | apply z3 | apply z4) <;> intro hq <;> (try simp only [zH] at hq) <;> (try (exfalso; omega)))))
theorem ev_has1 (l : List Int) (hl : l.length ≤ 16000000) (r : Rx) : lim Try.prog cfg (.call 148 [.agg ⟨rxC r⟩, .pointer (some ⟨0, 0, none⟩)]) (HP [X [FL l.length (ints l)] 39 0 true]) = some (.val (.bool (l.any fun a => decide (r.kind = a))), HP [X [FL l.length (ints l)] 39 0 true]) := by
  refine wjc hc wux (Nat.le_of_ble_eq_true rfl) (Nat.le_of_ble_eq_true rfl) ?_
  unfold wjw
  have h := walb l hl r.kind
  (repeat' (first | (simp -implicitDefEqProofs (maxSteps := 2000000) (disch := first | with_reducible assumption | omega | (simp only [zS, zA, Nat.reduceEqDiff, Nat.reduceLT, Nat.reduceLeDiff, Nat.reduceAdd, Nat.reduceSub, reduceCtorEq, zD] <;> omega) | fail) only [zS, argl, insA, Go.Den.wm, wo, wu, looks, wfb, web, idOf, riA, Nat.reduceLeDiff, Nat.reduceLT, Nat.reduceEqDiff, Nat.reduceDiv, Nat.reduceMod, Int.reduceLT, Int.reduceLE, Int.reduceEq, Int.reduceNeg, Int.reduceToNat, Int.reduceSub, Int.reduceMul, Int.reduceNe, Nat.reduceAdd, Nat.reduceMul, Nat.reduceSub, Int.reduceAdd, reduceCtorEq, Go.Den.wh, kK, *, zT]) | (with_reducible (first | apply z1 | apply z2 | apply z3 | apply z4) <;> intro hq <;> (try simp only [zH] at hq) <;> (try (exfalso; omega)))))
end
end Go.Proofs.Ytdbhfmdndiphcaa
namespace Go.Proofs.Ytdbhfmdndiphcaa
set_option linter.unusedVariables false
set_option linter.unusedSimpArgs false
open Go.Den
noncomputable section
def wwh (l : List Int) (r : Rx) : Bool := l.any fun a => decide (r.kind = a)
abbrev hasFn : Value := .func (.func 148) ⟨[]⟩ ⟨[.pointer (some ⟨0, 0, none⟩)]⟩
abbrev hasB (l : List Int) : List ABlk := [X [FL l.length (ints l)] 39 0 true]
theorem hb_has1 : wen Try.prog 148 = true := by kernel_rfl
theorem wncb {args : List Value} : dynA Try.prog hasFn args = .call 148 (args ++ [.pointer (some ⟨0, 0, none⟩)]) := by
  unfold dynA
  simp only [hb_has1, cond_true, List.nil_append]
theorem wblb : cfg.know 148 = none := by kernel_rfl
def fstW (ks : List Int) (n : Nat) : Option Nat → Option (Out × AH)
  | none => some (.code (.exit 0) (SE (EJ n G0) [(4, JK)]), HP (hasB ks))
  | some j => some (.code .ret (SE (EJ n G0) [(4, .int .i64 j)]), HP (hasB ks))
theorem wwcc (ks : List Int) (hks : ks.length ≤ 16000000) (l : List Rx) (hl : l.length ≤ 16000000) : ∀ (k i : Nat), i + k = l.length →
    lim Try.prog cfg (.loop 157 1 (wad 0) (SE (EJ 19 G0) [(8, .int .i64 i), (7, .int .i64 l.length), (1, hasFn), (0, FL l.length (rxsC l))])) (HP (hasB ks)) = fstW ks 19 (fstF (wwh ks) (l.drop i) i) := by
  intro k
  induction k with
  | zero =>
    intro i hi
    rw [List.drop_of_length_le (by omega), fstF, fstW]
    refine ww wqc ?_
    unfold wmc
    (repeat' (first | (simp -implicitDefEqProofs (maxSteps := 2000000) (disch := first | with_reducible assumption | omega | (simp only [zS, zA, Nat.reduceEqDiff, Nat.reduceLT, Nat.reduceLeDiff, Nat.reduceAdd, Nat.reduceSub, reduceCtorEq, wbb, wib, zD] <;> omega) | fail) only [zS, argl, insA, Go.Den.wm, wo, wu, looks, wfb, web, idOf, riA, Nat.reduceLeDiff, Nat.reduceLT, Nat.reduceEqDiff, Nat.reduceDiv, Nat.reduceMod, Int.reduceLT, Int.reduceLE, Int.reduceEq, Int.reduceNeg, Int.reduceToNat, Int.reduceSub, Int.reduceMul, Int.reduceNe, Nat.reduceAdd, Nat.reduceMul, Nat.reduceSub, Int.reduceAdd, reduceCtorEq, Go.Den.wh, kK, wcc, wbb, wib, ej19, *, zT]) | (with_reducible (first | apply z1 | apply z2 | apply z3 | apply z4) <;> intro hq <;> (try simp only [zH] at hq) <;> (try (exfalso; omega)))))
  | succ k ih =>
    intro i hi
    rw [wus l (by omega), fstF]
    have h := ih (i + 1) (by omega)
    clear ih
    have h1 := ev_has1 ks hks (l.getD i Rx.zero)
    by_cases hv : wwh ks (l.getD i Rx.zero) = true
    · rw [if_pos hv, fstW]
      unfold wwh at hv
      rw [hv] at h1
      clear h hv
      refine ww wqc ?_
      unfold wmc
      (repeat' (first | (simp -implicitDefEqProofs (maxSteps := 2000000) (disch := first | with_reducible assumption | omega | (simp only [zS, zA, Nat.reduceEqDiff, Nat.reduceLT, Nat.reduceLeDiff, Nat.reduceAdd, Nat.reduceSub, reduceCtorEq, zD] <;> omega) | fail) only [zS, argl, insA, Go.Den.wm, wo, wu, looks, wfb, web, idOf, riA, Nat.reduceLeDiff, Nat.reduceLT, Nat.reduceEqDiff, Nat.reduceDiv, Nat.reduceMod, Int.reduceLT, Int.reduceLE, Int.reduceEq, Int.reduceNeg, Int.reduceToNat, Int.reduceSub, Int.reduceMul, Int.reduceNe, Nat.reduceAdd, Nat.reduceMul, Nat.reduceSub, Int.reduceAdd, reduceCtorEq, Go.Den.wh, kK, wcc, wncb, wblb, *, zT]) | (with_reducible (first | apply z1 | apply z2 | apply z3 | apply z4) <;> intro hq <;> (try simp only [zH] at hq) <;> (try (exfalso; omega)))))
    · rw [if_neg hv]
      have hv2 : (ks.any fun a => decide ((l.getD i Rx.zero).kind = a)) = false := by show wwh ks _ = false; exact Bool.eq_false_iff.2 hv
      rw [hv2] at h1
      generalize fstF (wwh ks) (l.drop (i + 1)) (i + 1) = o at h ⊢
      clear hv hv2
      cases o with
      | none =>
        rw [fstW] at h ⊢
        refine ww wqc ?_
        unfold wmc
        (repeat' (first | (simp -implicitDefEqProofs (maxSteps := 2000000) (disch := first | with_reducible assumption | omega | (simp only [zS, zA, Nat.reduceEqDiff, Nat.reduceLT, Nat.reduceLeDiff, Nat.reduceAdd, Nat.reduceSub, reduceCtorEq, wbb, wib, zD] <;> omega) | fail) only [zS, argl, insA, Go.Den.wm, wo, wu, looks, wfb, web, idOf, riA, Nat.reduceLeDiff, Nat.reduceLT, Nat.reduceEqDiff, Nat.reduceDiv, Nat.reduceMod, Int.reduceLT, Int.reduceLE, Int.reduceEq, Int.reduceNeg, Int.reduceToNat, Int.reduceSub, Int.reduceMul, Int.reduceNe, Nat.reduceAdd, Nat.reduceMul, Nat.reduceSub, Int.reduceAdd, reduceCtorEq, Go.Den.wh, kK, wcc, wncb, wblb, wbb, wib, ej19, *, zT]) | (with_reducible (first | apply z1 | apply z2 | apply z3 | apply z4) <;> intro hq <;> (try simp only [zH] at hq) <;> (try (exfalso; omega)))))
        exact h
      | some j =>
        rw [fstW] at h ⊢
        refine ww wqc ?_
        unfold wmc
        (repeat' (first | (simp -implicitDefEqProofs (maxSteps := 2000000) (disch := first | with_reducible assumption | omega | (simp only [zS, zA, Nat.reduceEqDiff, Nat.reduceLT, Nat.reduceLeDiff, Nat.reduceAdd, Nat.reduceSub, reduceCtorEq, wbb, wib, zD] <;> omega) | fail) only [zS, argl, insA, Go.Den.wm, wo, wu, looks, wfb, web, idOf, riA, Nat.reduceLeDiff, Nat.reduceLT, Nat.reduceEqDiff, Nat.reduceDiv, Nat.reduceMod, Int.reduceLT, Int.reduceLE, Int.reduceEq, Int.reduceNeg, Int.reduceToNat, Int.reduceSub, Int.reduceMul, Int.reduceNe, Nat.reduceAdd, Nat.reduceMul, Nat.reduceSub, Int.reduceAdd, reduceCtorEq, Go.Den.wh, kK, wcc, wncb, wblb, wbb, wib, ej19, *, zT]) | (with_reducible (first | apply z1 | apply z2 | apply z3 | apply z4) <;> intro hq <;> (try simp only [zH] at hq) <;> (try (exfalso; omega)))))
        exact h
def wclb (r : Rx) : Bool := !((decide (r.kind ≠ 1) && decide (r.set ≠ 0#256)) || (decide (r.kind ≠ 4) && (decide (r.mn ≠ 0) || decide (r.mx ≠ 0)))) && (decide (r.kind = 5) || (decide (r.kind = 6) || decide (r.n = 0)))
theorem wjnb : [Value.int .u64 0, .int .u64 0, .int .u64 0, .int .u64 0] = setC 0#256 := rfl
theorem ev_bare (r : Rx) : lim Try.prog cfg (.call 96 [.agg ⟨rxC r⟩]) (HP []) = some (.val (.bool (wclb r)), HP []) := by
  refine wjc hc wybb (Nat.le_of_ble_eq_true rfl) (Nat.le_of_ble_eq_true rfl) ?_
  unfold wez wclb
  have hz : ∀ a b, eqcV true [.int .u64, .int .u64, .int .u64, .int .u64] (.agg ⟨setC a⟩) (.agg ⟨setC b⟩) = val (.bool (decide (a ≠ b))) := wcbc
  (repeat' (first | (simp -implicitDefEqProofs (maxSteps := 2000000) (disch := first | with_reducible assumption | omega | (simp only [zS, zA, Nat.reduceEqDiff, Nat.reduceLT, Nat.reduceLeDiff, Nat.reduceAdd, Nat.reduceSub, reduceCtorEq, zD] <;> omega) | fail) only [zS, argl, insA, Go.Den.wm, wo, wu, looks, wfb, web, idOf, riA, Nat.reduceLeDiff, Nat.reduceLT, Nat.reduceEqDiff, Nat.reduceDiv, Nat.reduceMod, Int.reduceLT, Int.reduceLE, Int.reduceEq, Int.reduceNeg, Int.reduceToNat, Int.reduceSub, Int.reduceMul, Int.reduceNe, Nat.reduceAdd, Nat.reduceMul, Nat.reduceSub, Int.reduceAdd, reduceCtorEq, Go.Den.wh, kK, wjnb, wmb, wrb, *, zT]) | (with_reducible (first | apply z1 | apply z2 | apply z3 | apply z4) <;> intro hq <;> (try simp only [zH] at hq) <;> (try (exfalso; omega)))))
def repF (r : Rx) : Bool := decide (0 ≤ r.mn) && (decide (r.mn ≤ 20) && (decide (r.mx = -1) || (decide (max r.mn 1 ≤ r.mx) && decide (r.mx ≤ 20))))
theorem ev_rep (r : Rx) : lim Try.prog cfg (.call 128 [.agg ⟨rxC r⟩]) (HP []) = some (.val (.bool (repF r)), HP []) := by
  refine wjc hc wcgb (Nat.le_of_ble_eq_true rfl) (Nat.le_of_ble_eq_true rfl) ?_
  unfold wbgb repF
  (repeat' (first | (simp -implicitDefEqProofs (maxSteps := 2000000) (disch := first | with_reducible assumption | omega | (simp only [zS, zA, Nat.reduceEqDiff, Nat.reduceLT, Nat.reduceLeDiff, Nat.reduceAdd, Nat.reduceSub, reduceCtorEq, zD] <;> omega) | fail) only [zS, argl, insA, Go.Den.wm, wo, wu, looks, wfb, web, idOf, riA, Nat.reduceLeDiff, Nat.reduceLT, Nat.reduceEqDiff, Nat.reduceDiv, Nat.reduceMod, Int.reduceLT, Int.reduceLE, Int.reduceEq, Int.reduceNeg, Int.reduceToNat, Int.reduceSub, Int.reduceMul, Int.reduceNe, Nat.reduceAdd, Nat.reduceMul, Nat.reduceSub, Int.reduceAdd, reduceCtorEq, Go.Den.wh, kK, wmb, wrb, *, zT]) | (with_reducible (first | apply z1 | apply z2 | apply z3 | apply z4) <;> intro hq <;> (try simp only [zH] at hq) <;> (try (exfalso; omega)))))
end
end Go.Proofs.Ytdbhfmdndiphcaa
namespace Go.Proofs.Ytdbhfmdndiphcaa
set_option linter.unusedVariables false
set_option linter.unusedSimpArgs false
open Go.Den
noncomputable section
theorem wmgb (ks : List Int) (hks : ks.length ≤ 16000000) (l : List Rx) (hl : l.length ≤ 16000000) : lim Try.prog cfg (.call 157 [FL l.length (rxsC l), hasFn]) (HP (hasB ks)) = some (.val (.int .i64 (fstV (fstF (wwh ks) l 0))), HP (hasB ks)) := by
  refine wjc hc wgh (Nat.le_of_ble_eq_true rfl) (Nat.le_of_ble_eq_true rfl) ?_
  unfold wgf
  have h := wwcc ks hks l hl l.length 0 (by omega)
  rw [List.drop_zero, show ((0 : Nat) : Int) = 0 from rfl] at h
  generalize fstF (wwh ks) l 0 = o at h ⊢
  cases o with
  | none =>
    rw [fstW] at h
    (repeat' (first | (simp -implicitDefEqProofs (maxSteps := 2000000) (disch := first | with_reducible assumption | omega | (simp only [zS, zA, Nat.reduceEqDiff, Nat.reduceLT, Nat.reduceLeDiff, Nat.reduceAdd, Nat.reduceSub, reduceCtorEq, wbb, wib, zD] <;> omega) | fail) only [zS, argl, insA, Go.Den.wm, wo, wu, looks, wfb, web, idOf, riA, Nat.reduceLeDiff, Nat.reduceLT, Nat.reduceEqDiff, Nat.reduceDiv, Nat.reduceMod, Int.reduceLT, Int.reduceLE, Int.reduceEq, Int.reduceNeg, Int.reduceToNat, Int.reduceSub, Int.reduceMul, Int.reduceNe, Nat.reduceAdd, Nat.reduceMul, Nat.reduceSub, Int.reduceAdd, reduceCtorEq, Go.Den.wh, kK, wcc, fstV, wbb, wib, ej19, *, zT]) | (with_reducible (first | apply z1 | apply z2 | apply z3 | apply z4) <;> intro hq <;> (try simp only [zH] at hq) <;> (try (exfalso; omega)))))
  | some j =>
    rw [fstW] at h
    (repeat' (first | (simp -implicitDefEqProofs (maxSteps := 2000000) (disch := first | with_reducible assumption | omega | (simp only [zS, zA, Nat.reduceEqDiff, Nat.reduceLT, Nat.reduceLeDiff, Nat.reduceAdd, Nat.reduceSub, reduceCtorEq, wbb, wib, zD] <;> omega) | fail) only [zS, argl, insA, Go.Den.wm, wo, wu, looks, wfb, web, idOf, riA, Nat.reduceLeDiff, Nat.reduceLT, Nat.reduceEqDiff, Nat.reduceDiv, Nat.reduceMod, Int.reduceLT, Int.reduceLE, Int.reduceEq, Int.reduceNeg, Int.reduceToNat, Int.reduceSub, Int.reduceMul, Int.reduceNe, Nat.reduceAdd, Nat.reduceMul, Nat.reduceSub, Int.reduceAdd, reduceCtorEq, Go.Den.wh, kK, wcc, fstV, wbb, wib, ej19, *, zT]) | (with_reducible (first | apply z1 | apply z2 | apply z3 | apply z4) <;> intro hq <;> (try simp only [zH] at hq) <;> (try (exfalso; omega)))))
theorem wuw (ks : List Int) (hks : ks.length ≤ 16000000) (l : List Rx) (hl : l.length ≤ 16000000) : lim Try.prog cfg (.call 147 [FL l.length (rxsC l), hasFn]) (HP (hasB ks)) = some (.val (.bool (l.any (wwh ks))), HP (hasB ks)) := by
  refine wjc hc wpg (Nat.le_of_ble_eq_true rfl) (Nat.le_of_ble_eq_true rfl) ?_
  unfold whe
  have h := wmgb ks hks l hl
  rw [← wvcc _ l 0]
  generalize fstV (fstF (wwh ks) l 0) = z at h ⊢
  (repeat' (first | (simp -implicitDefEqProofs (maxSteps := 2000000) (disch := first | with_reducible assumption | omega | (simp only [zS, zA, Nat.reduceEqDiff, Nat.reduceLT, Nat.reduceLeDiff, Nat.reduceAdd, Nat.reduceSub, reduceCtorEq, zD] <;> omega) | fail) only [zS, argl, insA, Go.Den.wm, wo, wu, looks, wfb, web, idOf, riA, Nat.reduceLeDiff, Nat.reduceLT, Nat.reduceEqDiff, Nat.reduceDiv, Nat.reduceMod, Int.reduceLT, Int.reduceLE, Int.reduceEq, Int.reduceNeg, Int.reduceToNat, Int.reduceSub, Int.reduceMul, Int.reduceNe, Nat.reduceAdd, Nat.reduceMul, Nat.reduceSub, Int.reduceAdd, reduceCtorEq, Go.Den.wh, kK, *, zT]) | (with_reducible (first | apply z1 | apply z2 | apply z3 | apply z4) <;> intro hq <;> (try simp only [zH] at hq) <;> (try (exfalso; omega)))))
theorem wdlb (ks : List Int) (hks : ks.length ≤ 16000000) (l : List Rx) (hl : l.length ≤ 16000000) : lim Try.prog cfg (.call 127 [FL l.length (rxsC l), FL ks.length (ints ks)]) (HP []) = some (.val (.bool (l.any (wwh ks))), HP []) := by
  refine wjc hc wagb (Nat.le_of_ble_eq_true rfl) (Nat.le_of_ble_eq_true rfl) ?_
  unfold wzfb
  have h := wuw ks hks l hl
  (repeat' (first | (simp -implicitDefEqProofs (maxSteps := 2000000) (disch := first | with_reducible assumption | omega | (simp only [zS, zA, Nat.reduceEqDiff, Nat.reduceLT, Nat.reduceLeDiff, Nat.reduceAdd, Nat.reduceSub, reduceCtorEq, zD] <;> omega) | fail) only [zS, argl, insA, Go.Den.wm, wo, wu, looks, wfb, web, idOf, riA, Nat.reduceLeDiff, Nat.reduceLT, Nat.reduceEqDiff, Nat.reduceDiv, Nat.reduceMod, Int.reduceLT, Int.reduceLE, Int.reduceEq, Int.reduceNeg, Int.reduceToNat, Int.reduceSub, Int.reduceMul, Int.reduceNe, Nat.reduceAdd, Nat.reduceMul, Nat.reduceSub, Int.reduceAdd, reduceCtorEq, Go.Den.wh, kK, *, zT]) | (with_reducible (first | apply z1 | apply z2 | apply z3 | apply z4) <;> intro hq <;> (try simp only [zH] at hq) <;> (try (exfalso; omega)))))
end
end Go.Proofs.Ytdbhfmdndiphcaa
namespace Go.Den
set_option linter.unusedVariables false
set_option linter.unusedSimpArgs false
noncomputable section
mutual
def wed : Rx → Nat
  | .mk _ _ _ _ _ kids => 1 + wyc kids
def wyc : List Rx → Nat
  | [] => 0
  | r :: l => wed r + wyc l
end
theorem wxcc (r : Rx) : 1 ≤ wed r := by cases r; rw [wed]; omega
theorem wvw : ∀ (l : List Rx), l.length ≤ wyc l := by
  intro l
  induction l with
  | nil => rw [wyc]; exact Nat.le_refl _
  | cons r l ih => rw [wyc, List.length_cons]; have := wxcc r; omega
theorem wpsb (l : List Rx) (i : Nat) : wyc (l.drop i) ≤ wyc l := by
  induction l generalizing i with
  | nil => rw [List.drop_nil]; exact Nat.le_refl _
  | cons a l ih =>
    cases i with
    | zero => rw [List.drop_zero]; exact Nat.le_refl _
    | succ i => rw [List.drop_succ_cons, wyc]; have := ih i; omega
end
end Go.Den
namespace Go.Proofs.Ytdbhfmdndiphcaa
open Go.Den
noncomputable section
def wao (r : Rx) : Bool :=
  if r.kind = 1 then decide ((r.kids.length : Int) = 0) && decide (r.set ≠ 0#256)
  else if r.kind = 2 then decide ((r.kids.length : Int) ≠ 1) && !(r.kids.any (wwh [2, 3]))
  else if r.kind = 3 then decide ((2 : Int) ≤ r.kids.length) && !(r.kids.any (wwh [3]))
  else if r.kind = 4 then decide ((r.kids.length : Int) = 1) && (r.kids.any (wwh [1, 5, 6]) && repF r)
  else if r.kind = 5 then decide ((r.kids.length : Int) = 1)
  else if r.kind = 6 then decide ((r.kids.length : Int) = 0)
  else if r.kind = 7 then decide ((r.kids.length : Int) = 0)
  else if r.kind = 8 then decide ((r.kids.length : Int) = 0)
  else false
theorem ev_has2 (a b : Int) (l : List Rx) (hl : l.length ≤ 16000000) : lim Try.prog cfg (.call 127 [FL l.length (rxsC l), FL 2 [.int .i64 a, .int .i64 b]]) (HP []) = some (.val (.bool (l.any (wwh [a, b]))), HP []) := wdlb [a, b] (by simp) l hl
theorem wycc (a : Int) (l : List Rx) (hl : l.length ≤ 16000000) : lim Try.prog cfg (.call 127 [FL l.length (rxsC l), FL 1 [.int .i64 a]]) (HP []) = some (.val (.bool (l.any (wwh [a]))), HP []) := wdlb [a] (by simp) l hl
theorem ev_has3 (a b c : Int) (l : List Rx) (hl : l.length ≤ 16000000) : lim Try.prog cfg (.call 127 [FL l.length (rxsC l), FL 3 [.int .i64 a, .int .i64 b, .int .i64 c]]) (HP []) = some (.val (.bool (l.any (wwh [a, b, c]))), HP []) := wdlb [a, b, c] (by simp) l hl
theorem ev_kids (r : Rx) (hl : r.kids.length ≤ 16000000) : lim Try.prog cfg (.call 97 [.agg ⟨rxC r⟩]) (HP []) = some (.val (.bool (wao r)), HP []) := by
  refine wjc hc wzbb (Nat.le_of_ble_eq_true rfl) (Nat.le_of_ble_eq_true rfl) ?_
  unfold wfz wao
  have hz : ∀ a b, eqcV true [.int .u64, .int .u64, .int .u64, .int .u64] (.agg ⟨setC a⟩) (.agg ⟨setC b⟩) = val (.bool (decide (a ≠ b))) := wcbc
  have h2 := ev_has2 2 3 r.kids hl
  have h3 := wycc 3 r.kids hl
  have h4 := ev_has3 1 5 6 r.kids hl
  have h5 := ev_rep r
  generalize r.kids.any (wwh [2, 3]) = b2 at h2 ⊢
  generalize r.kids.any (wwh [3]) = b3 at h3 ⊢
  generalize r.kids.any (wwh [1, 5, 6]) = b4 at h4 ⊢
  generalize repF r = b5 at h5 ⊢
  (repeat' (first | (simp -implicitDefEqProofs (maxSteps := 2000000) (disch := first | with_reducible assumption | omega | (simp only [zS, zA, Nat.reduceEqDiff, Nat.reduceLT, Nat.reduceLeDiff, Nat.reduceAdd, Nat.reduceSub, reduceCtorEq, zD] <;> omega) | fail) only [zS, argl, insA, Go.Den.wm, wo, wu, looks, wfb, web, idOf, riA, Nat.reduceLeDiff, Nat.reduceLT, Nat.reduceEqDiff, Nat.reduceDiv, Nat.reduceMod, Int.reduceLT, Int.reduceLE, Int.reduceEq, Int.reduceNeg, Int.reduceToNat, Int.reduceSub, Int.reduceMul, Int.reduceNe, Nat.reduceAdd, Nat.reduceMul, Nat.reduceSub, Int.reduceAdd, reduceCtorEq, Go.Den.wh, kK, wjnb, wmb, wrb, *, zT]) | (with_reducible (first | apply z1 | apply z2 | apply z3 | apply z4) <;> intro hq <;> (try simp only [zH] at hq) <;> (try (exfalso; omega)))))
  all_goals simp_all
theorem wqsb (l : List Rx) (hl : l.length ≤ 16000000) (hn : wyc l ≤ 1000000) (hk : ∀ r ∈ l, lim Try.prog cfg (.call 62 [.agg ⟨rxC r⟩]) (HP []) = some (.val (.int .i64 (wed r)), HP [])) :
    ∀ (k i : Nat) (a : Int), i + k = l.length → 0 ≤ a → a + wyc (l.drop i) ≤ 2000000 →
    lim Try.prog cfg (.loop 62 0 (whm 0) (SE (EJ 19 G0) [(9, .int .i64 i), (8, .int .i64 l.length), (7, FL l.length (rxsC l)), (3, .int .i64 a)])) (HP []) = some (.code (.exit 0) (SE (EJ 19 G0) [(3, .int .i64 (a + wyc (l.drop i)))]), HP []) := by
  intro k
  induction k with
  | zero =>
    intro i a hi h1 h2
    rw [List.drop_of_length_le (by omega), wyc]
    refine ww wum ?_
    unfold wim
    clear hk
    (repeat' (first | (simp -implicitDefEqProofs (maxSteps := 2000000) (disch := first | with_reducible assumption | omega | (simp only [zS, zA, Nat.reduceEqDiff, Nat.reduceLT, Nat.reduceLeDiff, Nat.reduceAdd, Nat.reduceSub, reduceCtorEq, zD] <;> omega) | fail) only [zS, argl, insA, Go.Den.wm, wo, wu, looks, wfb, web, idOf, riA, Nat.reduceLeDiff, Nat.reduceLT, Nat.reduceEqDiff, Nat.reduceDiv, Nat.reduceMod, Int.reduceLT, Int.reduceLE, Int.reduceEq, Int.reduceNeg, Int.reduceToNat, Int.reduceSub, Int.reduceMul, Int.reduceNe, Nat.reduceAdd, Nat.reduceMul, Nat.reduceSub, Int.reduceAdd, reduceCtorEq, Go.Den.wh, kK, wmm, Int.natCast_zero, Int.add_zero, *, zT]) | (with_reducible (first | apply z1 | apply z2 | apply z3 | apply z4) <;> intro hq <;> (try simp only [zH] at hq) <;> (try (exfalso; omega)))))
  | succ k ih =>
    intro i a hi h1 h2
    rw [wus l (by omega), wyc]
    have hr := hk _ (by rw [List.getD_eq_getElem?_getD, List.getElem?_eq_getElem (show i < l.length by omega)]; exact List.getElem_mem _ : l.getD i Rx.zero ∈ l)
    have hb : wed (l.getD i Rx.zero) + wyc (l.drop (i + 1)) ≤ wyc l := by
      have := wpsb l i
      rw [wus l (by omega), wyc] at this
      exact this
    rw [wus l (by omega), wyc] at h2
    have h := ih (i + 1) (a + wed (l.getD i Rx.zero)) (by omega) (by omega) (by omega)
    rw [show a + ((wed (l.getD i Rx.zero) + wyc (l.drop (i + 1)) : Nat) : Int) = a + (wed (l.getD i Rx.zero) : Int) + (wyc (l.drop (i + 1)) : Int) by omega]
    refine ww wum ?_
    unfold wim
    clear hk ih
    (repeat' (first | (simp -implicitDefEqProofs (maxSteps := 2000000) (disch := first | with_reducible assumption | omega | (simp only [zS, zA, Nat.reduceEqDiff, Nat.reduceLT, Nat.reduceLeDiff, Nat.reduceAdd, Nat.reduceSub, reduceCtorEq, zD] <;> omega) | fail) only [zS, argl, insA, Go.Den.wm, wo, wu, looks, wfb, web, idOf, riA, Nat.reduceLeDiff, Nat.reduceLT, Nat.reduceEqDiff, Nat.reduceDiv, Nat.reduceMod, Int.reduceLT, Int.reduceLE, Int.reduceEq, Int.reduceNeg, Int.reduceToNat, Int.reduceSub, Int.reduceMul, Int.reduceNe, Nat.reduceAdd, Nat.reduceMul, Nat.reduceSub, Int.reduceAdd, reduceCtorEq, Go.Den.wh, kK, wmm, *, zT]) | (with_reducible (first | apply z1 | apply z2 | apply z3 | apply z4) <;> intro hq <;> (try simp only [zH] at hq) <;> (try (exfalso; omega)))))
    exact h
theorem ev_Nodes : ∀ r : Rx, wed r ≤ 1000000 → lim Try.prog cfg (.call 62 [.agg ⟨rxC r⟩]) (HP []) = some (.val (.int .i64 (wed r)), HP []) := by
  refine Rx.rec (motive_1 := fun r => wed r ≤ 1000000 → lim Try.prog cfg (.call 62 [.agg ⟨rxC r⟩]) (HP []) = some (.val (.int .i64 (wed r)), HP [])) (motive_2 := fun l => wyc l ≤ 1000000 → ∀ r ∈ l, lim Try.prog cfg (.call 62 [.agg ⟨rxC r⟩]) (HP []) = some (.val (.int .i64 (wed r)), HP [])) ?_ ?_ ?_
  · intro k mn mx n s l ih hn
    rw [wed] at hn
    have hl := wvw l
    have h := wqsb l (by omega) (by omega) (ih (by omega)) l.length 0 1 (by omega) (by omega) (by rw [List.drop_zero]; omega)
    rw [List.drop_zero, show ((0 : Nat) : Int) = 0 from rfl] at h
    rw [wed, show ((1 + wyc l : Nat) : Int) = 1 + (wyc l : Int) by omega]
    refine wjc hc wsx (Nat.le_of_ble_eq_true rfl) (Nat.le_of_ble_eq_true rfl) ?_
    unfold whw
    clear ih
    (repeat' (first | (simp -implicitDefEqProofs (maxSteps := 2000000) (disch := first | with_reducible assumption | omega | (simp only [zS, zA, Nat.reduceEqDiff, Nat.reduceLT, Nat.reduceLeDiff, Nat.reduceAdd, Nat.reduceSub, reduceCtorEq, zD] <;> omega) | fail) only [zS, argl, insA, Go.Den.wm, wo, wu, looks, wfb, web, idOf, riA, Nat.reduceLeDiff, Nat.reduceLT, Nat.reduceEqDiff, Nat.reduceDiv, Nat.reduceMod, Int.reduceLT, Int.reduceLE, Int.reduceEq, Int.reduceNeg, Int.reduceToNat, Int.reduceSub, Int.reduceMul, Int.reduceNe, Nat.reduceAdd, Nat.reduceMul, Nat.reduceSub, Int.reduceAdd, reduceCtorEq, Go.Den.wh, kK, wmm, *, zT]) | (with_reducible (first | apply z1 | apply z2 | apply z3 | apply z4) <;> intro hq <;> (try simp only [zH] at hq) <;> (try (exfalso; omega)))))
  · intro _ r h; cases h
  · intro r l h1 h2 hn x hx
    rw [wyc] at hn
    rcases List.mem_cons.1 hx with rfl | hx
    · exact h1 (by omega)
    · exact h2 (by omega) x hx
theorem wkz (r : Rx) (g : Int) : lim Try.prog cfg (.call 78 [.pointer (some ⟨0, 0, none⟩), .agg ⟨rxC r⟩]) (HP [X [.bool true, .int .i64 g] 143 0 true]) = some (.val (.bool true), HP [X [.bool true, .int .i64 g] 143 0 true]) := by
  refine wjc hc wjm (Nat.le_of_ble_eq_true rfl) (Nat.le_of_ble_eq_true rfl) ?_
  unfold wkj
  (repeat' (first | (simp -implicitDefEqProofs (maxSteps := 2000000) (disch := first | with_reducible assumption | omega | (simp only [zS, zA, Nat.reduceEqDiff, Nat.reduceLT, Nat.reduceLeDiff, Nat.reduceAdd, Nat.reduceSub, reduceCtorEq, zD] <;> omega) | fail) only [zS, argl, insA, Go.Den.wm, wo, wu, looks, wfb, web, idOf, riA, Nat.reduceLeDiff, Nat.reduceLT, Nat.reduceEqDiff, Nat.reduceDiv, Nat.reduceMod, Int.reduceLT, Int.reduceLE, Int.reduceEq, Int.reduceNeg, Int.reduceToNat, Int.reduceSub, Int.reduceMul, Int.reduceNe, Nat.reduceAdd, Nat.reduceMul, Nat.reduceSub, Int.reduceAdd, reduceCtorEq, Go.Den.wh, kK, wmb, wrb, *, zT]) | (with_reducible (first | apply z1 | apply z2 | apply z3 | apply z4) <;> intro hq <;> (try simp only [zH] at hq) <;> (try (exfalso; omega)))))
end
end Go.Proofs.Ytdbhfmdndiphcaa
namespace Go.Proofs.Ytdbhfmdndiphcaa
set_option linter.unusedVariables false
set_option linter.unusedSimpArgs false
open Go.Den
noncomputable section
mutual
def wxh : Rx → Int → Int → Bool × Int
  | .mk k mn mx n s kids, d, g =>
    if wclb (.mk k mn mx n s kids) = true then
      if wao (.mk k mn mx n s kids) = true then
        if k = 5 then (if n = g + 1 then (if d + 1 ≤ 6 then wrf kids (d + 1) (g + 1) else (false, g + 1)) else (false, g + 1))
        else if k = 6 then (decide (1 ≤ n) && decide (n ≤ g), g)
        else wrf kids d g
      else (false, g)
    else (false, g)
def wrf : List Rx → Int → Int → Bool × Int
  | [], _, g => (true, g)
  | r :: l, d, g => if (wxh r d g).1 = true then wrf l d (wxh r d g).2 else (false, (wxh r d g).2)
end
theorem wocb : ∀ (r : Rx) (d g : Int), g ≤ (wxh r d g).2 ∧ (wxh r d g).2 ≤ g + wed r := by
  refine Rx.rec (motive_1 := fun r => ∀ (d g : Int), g ≤ (wxh r d g).2 ∧ (wxh r d g).2 ≤ g + wed r) (motive_2 := fun l => ∀ (d g : Int), g ≤ (wrf l d g).2 ∧ (wrf l d g).2 ≤ g + wyc l) ?_ ?_ ?_
  · intro k mn mx n s l ih d g
    rw [wxh, wed]
    have h1 := ih (d + 1) (g + 1)
    have h2 := ih d g
    repeat' split
    all_goals first | (constructor <;> simp <;> omega) | omega
  · intro d g; rw [wrf, wyc]; exact ⟨Int.le_refl _, by simp⟩
  · intro r l h1 h2 d g
    rw [wrf, wyc]
    have h3 := h1 d g
    have h4 := h2 d (wxh r d g).2
    split
    · omega
    · simp; omega
abbrev wkB (g : Int) : List ABlk := [X [.bool true, .int .i64 g] 143 0 true]
def wpcb (w : Bool × Int) : Option (Out × AH) := if w.1 = true then some (.code (.exit 1) (SE (EJ 89 G0) [(6, JK)]), HP (wkB w.2)) else some (.code .ret (SE (EJ 89 G0) [(6, .bool false)]), HP (wkB w.2))
theorem ej89 : (EJ 89 G0).get 6 = JK := rfl
def wlz (r : Rx) : Prop := ∀ d g : Int, 0 ≤ d → d ≤ 1000 → 0 ≤ g → g + wed r ≤ 2000000 → lim Try.prog cfg (.call 79 [.pointer (some ⟨0, 0, none⟩), .agg ⟨rxC r⟩, .int .i64 d]) (HP (wkB g)) = some (.val (.bool (wxh r d g).1), HP (wkB (wxh r d g).2))
theorem wngb (l : List Rx) (hl : l.length ≤ 16000000) (hk : ∀ r ∈ l, wlz r) (d : Int) (hd : 0 ≤ d) (hd2 : d ≤ 1000) :
    ∀ (k i : Nat) (g : Int), i + k = l.length → 0 ≤ g → g + wyc (l.drop i) ≤ 2000000 →
    lim Try.prog cfg (.loop 79 1 (wug 0) (SE (EJ 89 G0) [(79, .int .i64 i), (78, .int .i64 l.length), (77, FL l.length (rxsC l)), (2, .int .i64 d), (0, .pointer (some ⟨0, 0, none⟩))])) (HP (wkB g)) = wpcb (wrf (l.drop i) d g) := by
  intro k
  induction k with
  | zero =>
    intro i g hi h1 h2
    rw [List.drop_of_length_le (by omega), wrf, wpcb, if_pos rfl]
    refine ww wse ?_
    unfold wpe
    clear hk
    (repeat' (first | (simp -implicitDefEqProofs (maxSteps := 2000000) (disch := first | with_reducible assumption | omega | (simp only [zS, zA, Nat.reduceEqDiff, Nat.reduceLT, Nat.reduceLeDiff, Nat.reduceAdd, Nat.reduceSub, reduceCtorEq, wbb, wib, zD] <;> omega) | fail) only [zS, argl, insA, Go.Den.wm, wo, wu, looks, wfb, web, idOf, riA, Nat.reduceLeDiff, Nat.reduceLT, Nat.reduceEqDiff, Nat.reduceDiv, Nat.reduceMod, Int.reduceLT, Int.reduceLE, Int.reduceEq, Int.reduceNeg, Int.reduceToNat, Int.reduceSub, Int.reduceMul, Int.reduceNe, Nat.reduceAdd, Nat.reduceMul, Nat.reduceSub, Int.reduceAdd, reduceCtorEq, Go.Den.wh, kK, wbc, wbb, wib, ej89, *, zT]) | (with_reducible (first | apply z1 | apply z2 | apply z3 | apply z4) <;> intro hq <;> (try simp only [zH] at hq) <;> (try (exfalso; omega)))))
  | succ k ih =>
    intro i g hi h1 h2
    rw [wus l (by omega), wyc] at h2
    rw [wus l (by omega), wrf]
    have hr := hk _ (by rw [List.getD_eq_getElem?_getD, List.getElem?_eq_getElem (show i < l.length by omega)]; exact List.getElem_mem _ : l.getD i Rx.zero ∈ l) d g hd hd2 h1 (by omega)
    have hw := wocb (l.getD i Rx.zero) d g
    have h := ih (i + 1) (wxh (l.getD i Rx.zero) d g).2 (by omega) (by omega) (by omega)
    generalize wxh (l.getD i Rx.zero) d g = w at hr hw h ⊢
    obtain ⟨b, g2⟩ := w
    clear hk ih
    cases b with
    | false =>
      rw [if_neg (by simp), wpcb, if_neg (by simp)]
      clear h
      refine ww wse ?_
      unfold wpe
      (repeat' (first | (simp -implicitDefEqProofs (maxSteps := 2000000) (disch := first | with_reducible assumption | omega | (simp only [zS, zA, Nat.reduceEqDiff, Nat.reduceLT, Nat.reduceLeDiff, Nat.reduceAdd, Nat.reduceSub, reduceCtorEq, zD] <;> omega) | fail) only [zS, argl, insA, Go.Den.wm, wo, wu, looks, wfb, web, idOf, riA, Nat.reduceLeDiff, Nat.reduceLT, Nat.reduceEqDiff, Nat.reduceDiv, Nat.reduceMod, Int.reduceLT, Int.reduceLE, Int.reduceEq, Int.reduceNeg, Int.reduceToNat, Int.reduceSub, Int.reduceMul, Int.reduceNe, Nat.reduceAdd, Nat.reduceMul, Nat.reduceSub, Int.reduceAdd, reduceCtorEq, Go.Den.wh, kK, wbc, *, zT]) | (with_reducible (first | apply z1 | apply z2 | apply z3 | apply z4) <;> intro hq <;> (try simp only [zH] at hq) <;> (try (exfalso; omega)))))
    | true =>
      rw [if_pos rfl]
      generalize wrf (l.drop (i + 1)) d (true, g2).2 = w2 at h ⊢
      obtain ⟨b2, g3⟩ := w2
      cases b2 with
      | true =>
        rw [wpcb, if_pos rfl] at h ⊢
        refine ww wse ?_
        unfold wpe
        (repeat' (first | (simp -implicitDefEqProofs (maxSteps := 2000000) (disch := first | with_reducible assumption | omega | (simp only [zS, zA, Nat.reduceEqDiff, Nat.reduceLT, Nat.reduceLeDiff, Nat.reduceAdd, Nat.reduceSub, reduceCtorEq, wbb, wib, zD] <;> omega) | fail) only [zS, argl, insA, Go.Den.wm, wo, wu, looks, wfb, web, idOf, riA, Nat.reduceLeDiff, Nat.reduceLT, Nat.reduceEqDiff, Nat.reduceDiv, Nat.reduceMod, Int.reduceLT, Int.reduceLE, Int.reduceEq, Int.reduceNeg, Int.reduceToNat, Int.reduceSub, Int.reduceMul, Int.reduceNe, Nat.reduceAdd, Nat.reduceMul, Nat.reduceSub, Int.reduceAdd, reduceCtorEq, Go.Den.wh, kK, wbc, wbb, wib, ej89, *, zT]) | (with_reducible (first | apply z1 | apply z2 | apply z3 | apply z4) <;> intro hq <;> (try simp only [zH] at hq) <;> (try (exfalso; omega)))))
        exact h
      | false =>
        rw [wpcb, if_neg (by simp)] at h ⊢
        refine ww wse ?_
        unfold wpe
        (repeat' (first | (simp -implicitDefEqProofs (maxSteps := 2000000) (disch := first | with_reducible assumption | omega | (simp only [zS, zA, Nat.reduceEqDiff, Nat.reduceLT, Nat.reduceLeDiff, Nat.reduceAdd, Nat.reduceSub, reduceCtorEq, wbb, wib, zD] <;> omega) | fail) only [zS, argl, insA, Go.Den.wm, wo, wu, looks, wfb, web, idOf, riA, Nat.reduceLeDiff, Nat.reduceLT, Nat.reduceEqDiff, Nat.reduceDiv, Nat.reduceMod, Int.reduceLT, Int.reduceLE, Int.reduceEq, Int.reduceNeg, Int.reduceToNat, Int.reduceSub, Int.reduceMul, Int.reduceNe, Nat.reduceAdd, Nat.reduceMul, Nat.reduceSub, Int.reduceAdd, reduceCtorEq, Go.Den.wh, kK, wbc, wbb, wib, ej89, *, zT]) | (with_reducible (first | apply z1 | apply z2 | apply z3 | apply z4) <;> intro hq <;> (try simp only [zH] at hq) <;> (try (exfalso; omega)))))
        exact h
end
end Go.Proofs.Ytdbhfmdndiphcaa
namespace Go.Proofs.Ytdbhfmdndiphcaa
set_option linter.unusedVariables false
set_option linter.unusedSimpArgs false
open Go.Den
noncomputable section
set_option maxHeartbeats 4000000 in
theorem wzcc (k mn mx n : Int) (set : BitVec 256) (kids : List Rx) (hl : kids.length ≤ 16000000) (ih : ∀ r ∈ kids, wlz r) : wlz (.mk k mn mx n set kids) := by
  intro d g hd hd2 hg hgn
  rw [wed] at hgn
  have hb := ev_bare (.mk k mn mx n set kids)
  have hk := ev_kids (.mk k mn mx n set kids) hl
  rw [wxh]
  refine wjc hc wfp (Nat.le_of_ble_eq_true rfl) (Nat.le_of_ble_eq_true rfl) ?_
  unfold wfl
  cases hbv : wclb (.mk k mn mx n set kids) with
  | false =>
    rw [if_neg (by simp)]
    rw [hbv] at hb
    clear hk ih hbv
    (repeat' (first | (simp -implicitDefEqProofs (maxSteps := 2000000) (disch := first | with_reducible assumption | omega | (simp only [zS, zA, Nat.reduceEqDiff, Nat.reduceLT, Nat.reduceLeDiff, Nat.reduceAdd, Nat.reduceSub, reduceCtorEq, zD] <;> omega) | fail) only [zS, argl, insA, Go.Den.wm, wo, wu, looks, wfb, web, idOf, riA, Nat.reduceLeDiff, Nat.reduceLT, Nat.reduceEqDiff, Nat.reduceDiv, Nat.reduceMod, Int.reduceLT, Int.reduceLE, Int.reduceEq, Int.reduceNeg, Int.reduceToNat, Int.reduceSub, Int.reduceMul, Int.reduceNe, Nat.reduceAdd, Nat.reduceMul, Nat.reduceSub, Int.reduceAdd, reduceCtorEq, Go.Den.wh, kK, wbc, wmb, wrb, *, zT]) | (with_reducible (first | apply z1 | apply z2 | apply z3 | apply z4) <;> intro hq <;> (try simp only [zH] at hq) <;> (try (exfalso; omega))) | (with_reducible apply z5; (case hl => (repeat (first | exact .nil | with_reducible apply z6 | with_reducible apply z7))); (case h => kernel_rfl))))
  | true =>
  rw [if_pos rfl]
  rw [hbv] at hb
  clear hbv
  cases hkv : wao (.mk k mn mx n set kids) with
  | false =>
    rw [if_neg (by simp)]
    rw [hkv] at hk
    clear ih hkv
    (repeat' (first | (simp -implicitDefEqProofs (maxSteps := 2000000) (disch := first | with_reducible assumption | omega | (simp only [zS, zA, Nat.reduceEqDiff, Nat.reduceLT, Nat.reduceLeDiff, Nat.reduceAdd, Nat.reduceSub, reduceCtorEq, zD] <;> omega) | fail) only [zS, argl, insA, Go.Den.wm, wo, wu, looks, wfb, web, idOf, riA, Nat.reduceLeDiff, Nat.reduceLT, Nat.reduceEqDiff, Nat.reduceDiv, Nat.reduceMod, Int.reduceLT, Int.reduceLE, Int.reduceEq, Int.reduceNeg, Int.reduceToNat, Int.reduceSub, Int.reduceMul, Int.reduceNe, Nat.reduceAdd, Nat.reduceMul, Nat.reduceSub, Int.reduceAdd, reduceCtorEq, Go.Den.wh, kK, wbc, wmb, wrb, *, zT]) | (with_reducible (first | apply z1 | apply z2 | apply z3 | apply z4) <;> intro hq <;> (try simp only [zH] at hq) <;> (try (exfalso; omega))) | (with_reducible apply z5; (case hl => (repeat (first | exact .nil | with_reducible apply z6 | with_reducible apply z7))); (case h => kernel_rfl))))
  | true =>
  rw [if_pos rfl]
  rw [hkv] at hk
  by_cases h5 : k = 5
  · subst h5
    rw [if_pos rfl]
    have hlen : kids.length = 1 := by
      have h3 : decide ((kids.length : Int) = 1) = true := hkv
      rw [decide_eq_true_eq] at h3
      omega
    have hs : slotsOf (rxsC kids) 0 9 = rxC (kids.getD 0 Rx.zero) := by
      have := wwo (l := kids) (i := 0) (by omega)
      rwa [Nat.zero_mul] at this
    have hcl : 9 ≤ (rxsC kids).length := by rw [wsw, hlen]; omega
    have hz : 0 < kids.length := by omega
    have ha := wkz (kids.getD 0 Rx.zero) (g + 1)
    clear hkv hlen
    by_cases hn : n = g + 1
    · rw [if_pos hn]
      by_cases hd6 : d + 1 ≤ 6
      · rw [if_pos hd6]
        have h := wngb kids hl ih (d + 1) (by omega) (by omega) kids.length 0 (g + 1) (by omega) (by omega) (by rw [List.drop_zero]; omega)
        rw [List.drop_zero, show ((0 : Nat) : Int) = 0 from rfl] at h
        generalize wrf kids (d + 1) (g + 1) = w at h ⊢
        obtain ⟨b, g2⟩ := w
        clear ih
        subst hn
        cases b with
        | true =>
          rw [wpcb, if_pos rfl] at h
          (repeat' (first | (simp -implicitDefEqProofs (maxSteps := 2000000) (disch := first | with_reducible assumption | omega | (simp only [zS, zA, Nat.reduceEqDiff, Nat.reduceLT, Nat.reduceLeDiff, Nat.reduceAdd, Nat.reduceSub, reduceCtorEq, wbb, wib, zD] <;> omega) | fail) only [zS, argl, insA, Go.Den.wm, wo, wu, looks, wfb, web, idOf, riA, Nat.reduceLeDiff, Nat.reduceLT, Nat.reduceEqDiff, Nat.reduceDiv, Nat.reduceMod, Int.reduceLT, Int.reduceLE, Int.reduceEq, Int.reduceNeg, Int.reduceToNat, Int.reduceSub, Int.reduceMul, Int.reduceNe, Nat.reduceAdd, Nat.reduceMul, Nat.reduceSub, Int.reduceAdd, reduceCtorEq, Go.Den.wh, kK, wbc, wmb, wrb, wbb, wib, ej89, *, zT]) | (with_reducible (first | apply z1 | apply z2 | apply z3 | apply z4) <;> intro hq <;> (try simp only [zH] at hq) <;> (try (exfalso; omega))) | (with_reducible apply z5; (case hl => (repeat (first | exact .nil | with_reducible apply z6 | with_reducible apply z7))); (case h => kernel_rfl))))
        | false =>
          rw [wpcb, if_neg (by simp)] at h
          (repeat' (first | (simp -implicitDefEqProofs (maxSteps := 2000000) (disch := first | with_reducible assumption | omega | (simp only [zS, zA, Nat.reduceEqDiff, Nat.reduceLT, Nat.reduceLeDiff, Nat.reduceAdd, Nat.reduceSub, reduceCtorEq, wbb, wib, zD] <;> omega) | fail) only [zS, argl, insA, Go.Den.wm, wo, wu, looks, wfb, web, idOf, riA, Nat.reduceLeDiff, Nat.reduceLT, Nat.reduceEqDiff, Nat.reduceDiv, Nat.reduceMod, Int.reduceLT, Int.reduceLE, Int.reduceEq, Int.reduceNeg, Int.reduceToNat, Int.reduceSub, Int.reduceMul, Int.reduceNe, Nat.reduceAdd, Nat.reduceMul, Nat.reduceSub, Int.reduceAdd, reduceCtorEq, Go.Den.wh, kK, wbc, wmb, wrb, wbb, wib, ej89, *, zT]) | (with_reducible (first | apply z1 | apply z2 | apply z3 | apply z4) <;> intro hq <;> (try simp only [zH] at hq) <;> (try (exfalso; omega))) | (with_reducible apply z5; (case hl => (repeat (first | exact .nil | with_reducible apply z6 | with_reducible apply z7))); (case h => kernel_rfl))))
      · rw [if_neg hd6]
        clear ih
        subst hn
        (repeat' (first | (simp -implicitDefEqProofs (maxSteps := 2000000) (disch := first | with_reducible assumption | omega | (simp only [zS, zA, Nat.reduceEqDiff, Nat.reduceLT, Nat.reduceLeDiff, Nat.reduceAdd, Nat.reduceSub, reduceCtorEq, zD] <;> omega) | fail) only [zS, argl, insA, Go.Den.wm, wo, wu, looks, wfb, web, idOf, riA, Nat.reduceLeDiff, Nat.reduceLT, Nat.reduceEqDiff, Nat.reduceDiv, Nat.reduceMod, Int.reduceLT, Int.reduceLE, Int.reduceEq, Int.reduceNeg, Int.reduceToNat, Int.reduceSub, Int.reduceMul, Int.reduceNe, Nat.reduceAdd, Nat.reduceMul, Nat.reduceSub, Int.reduceAdd, reduceCtorEq, Go.Den.wh, kK, wbc, wmb, wrb, *, zT]) | (with_reducible (first | apply z1 | apply z2 | apply z3 | apply z4) <;> intro hq <;> (try simp only [zH] at hq) <;> (try (exfalso; omega))) | (with_reducible apply z5; (case hl => (repeat (first | exact .nil | with_reducible apply z6 | with_reducible apply z7))); (case h => kernel_rfl))))
    · rw [if_neg hn]
      clear ih
      (repeat' (first | (simp -implicitDefEqProofs (maxSteps := 2000000) (disch := first | with_reducible assumption | omega | (simp only [zS, zA, Nat.reduceEqDiff, Nat.reduceLT, Nat.reduceLeDiff, Nat.reduceAdd, Nat.reduceSub, reduceCtorEq, zD] <;> omega) | fail) only [zS, argl, insA, Go.Den.wm, wo, wu, looks, wfb, web, idOf, riA, Nat.reduceLeDiff, Nat.reduceLT, Nat.reduceEqDiff, Nat.reduceDiv, Nat.reduceMod, Int.reduceLT, Int.reduceLE, Int.reduceEq, Int.reduceNeg, Int.reduceToNat, Int.reduceSub, Int.reduceMul, Int.reduceNe, Nat.reduceAdd, Nat.reduceMul, Nat.reduceSub, Int.reduceAdd, reduceCtorEq, Go.Den.wh, kK, wbc, wmb, wrb, *, zT]) | (with_reducible (first | apply z1 | apply z2 | apply z3 | apply z4) <;> intro hq <;> (try simp only [zH] at hq) <;> (try (exfalso; omega))) | (with_reducible apply z5; (case hl => (repeat (first | exact .nil | with_reducible apply z6 | with_reducible apply z7))); (case h => kernel_rfl))))
  rw [if_neg h5]
  clear hkv
  by_cases h6 : k = 6
  · subst h6
    rw [if_pos rfl]
    clear ih
    (repeat' (first | (simp -implicitDefEqProofs (maxSteps := 2000000) (disch := first | with_reducible assumption | omega | (simp only [zS, zA, Nat.reduceEqDiff, Nat.reduceLT, Nat.reduceLeDiff, Nat.reduceAdd, Nat.reduceSub, reduceCtorEq, zD] <;> omega) | fail) only [zS, argl, insA, Go.Den.wm, wo, wu, looks, wfb, web, idOf, riA, Nat.reduceLeDiff, Nat.reduceLT, Nat.reduceEqDiff, Nat.reduceDiv, Nat.reduceMod, Int.reduceLT, Int.reduceLE, Int.reduceEq, Int.reduceNeg, Int.reduceToNat, Int.reduceSub, Int.reduceMul, Int.reduceNe, Nat.reduceAdd, Nat.reduceMul, Nat.reduceSub, Int.reduceAdd, reduceCtorEq, Go.Den.wh, kK, wbc, wmb, wrb, *, zT]) | (with_reducible (first | apply z1 | apply z2 | apply z3 | apply z4) <;> intro hq <;> (try simp only [zH] at hq) <;> (try (exfalso; omega))) | (with_reducible apply z5; (case hl => (repeat (first | exact .nil | with_reducible apply z6 | with_reducible apply z7))); (case h => kernel_rfl))))
  rw [if_neg h6]
  have h := wngb kids hl ih d (by omega) (by omega) kids.length 0 g (by omega) (by omega) (by rw [List.drop_zero]; omega)
  rw [List.drop_zero, show ((0 : Nat) : Int) = 0 from rfl] at h
  generalize wrf kids d g = w at h ⊢
  obtain ⟨b, g2⟩ := w
  clear ih
  cases b with
  | true =>
    rw [wpcb, if_pos rfl] at h
    (repeat' (first | (simp -implicitDefEqProofs (maxSteps := 2000000) (disch := first | with_reducible assumption | omega | (simp only [zS, zA, Nat.reduceEqDiff, Nat.reduceLT, Nat.reduceLeDiff, Nat.reduceAdd, Nat.reduceSub, reduceCtorEq, wbb, wib, zD] <;> omega) | fail) only [zS, argl, insA, Go.Den.wm, wo, wu, looks, wfb, web, idOf, riA, Nat.reduceLeDiff, Nat.reduceLT, Nat.reduceEqDiff, Nat.reduceDiv, Nat.reduceMod, Int.reduceLT, Int.reduceLE, Int.reduceEq, Int.reduceNeg, Int.reduceToNat, Int.reduceSub, Int.reduceMul, Int.reduceNe, Nat.reduceAdd, Nat.reduceMul, Nat.reduceSub, Int.reduceAdd, reduceCtorEq, Go.Den.wh, kK, wbc, wmb, wrb, wbb, wib, ej89, *, zT]) | (with_reducible (first | apply z1 | apply z2 | apply z3 | apply z4) <;> intro hq <;> (try simp only [zH] at hq) <;> (try (exfalso; omega))) | (with_reducible apply z5; (case hl => (repeat (first | exact .nil | with_reducible apply z6 | with_reducible apply z7))); (case h => kernel_rfl))))
  | false =>
    rw [wpcb, if_neg (by simp)] at h
    (repeat' (first | (simp -implicitDefEqProofs (maxSteps := 2000000) (disch := first | with_reducible assumption | omega | (simp only [zS, zA, Nat.reduceEqDiff, Nat.reduceLT, Nat.reduceLeDiff, Nat.reduceAdd, Nat.reduceSub, reduceCtorEq, wbb, wib, zD] <;> omega) | fail) only [zS, argl, insA, Go.Den.wm, wo, wu, looks, wfb, web, idOf, riA, Nat.reduceLeDiff, Nat.reduceLT, Nat.reduceEqDiff, Nat.reduceDiv, Nat.reduceMod, Int.reduceLT, Int.reduceLE, Int.reduceEq, Int.reduceNeg, Int.reduceToNat, Int.reduceSub, Int.reduceMul, Int.reduceNe, Nat.reduceAdd, Nat.reduceMul, Nat.reduceSub, Int.reduceAdd, reduceCtorEq, Go.Den.wh, kK, wbc, wmb, wrb, wbb, wib, ej89, *, zT]) | (with_reducible (first | apply z1 | apply z2 | apply z3 | apply z4) <;> intro hq <;> (try simp only [zH] at hq) <;> (try (exfalso; omega))) | (with_reducible apply z5; (case hl => (repeat (first | exact .nil | with_reducible apply z6 | with_reducible apply z7))); (case h => kernel_rfl))))
theorem ev_walk : ∀ r : Rx, wed r ≤ 1000000 → wlz r := by
  refine Rx.rec (motive_1 := fun r => wed r ≤ 1000000 → wlz r) (motive_2 := fun l => wyc l ≤ 1000000 → ∀ r ∈ l, wlz r) ?_ ?_ ?_
  · intro k mn mx n s l ih hn
    rw [wed] at hn
    have hl := wvw l
    exact wzcc k mn mx n s l (by omega) (ih (by omega))
  · intro _ r h; cases h
  · intro r l h1 h2 hn x hx
    rw [wyc] at hn
    rcases List.mem_cons.1 hx with rfl | hx
    · exact h1 (by omega)
    · exact h2 (by omega) x hx
def wkl (r : Rx) : Bool := decide (wed r ≤ 40) && ((wxh r 0 0).1 && decide ((wxh r 0 0).2 ≤ 3))
theorem wknb (r : Rx) (hn : wed r ≤ 1000000) : lim Try.prog cfg (.call 58 [.agg ⟨rxC r⟩, .bool true]) (HP []) = some (.val (.bool (wkl r)), HP []) := by
  have h1 := ev_Nodes r hn
  have h2 := wkz r 0
  have h3 := ev_walk r hn 0 0 (by omega) (by omega) (by omega) (by omega)
  unfold wkl
  generalize wxh r 0 0 = w at h3 ⊢
  obtain ⟨b, g⟩ := w
  refine wjc hc wrx (Nat.le_of_ble_eq_true rfl) (Nat.le_of_ble_eq_true rfl) ?_
  unfold wgw
  by_cases hq : wed r ≤ 40
  · have hq2 : (wed r : Int) ≤ 40 := by omega
    rw [decide_eq_true hq]
    cases b with
    | false => (repeat' (first | (simp -implicitDefEqProofs (maxSteps := 2000000) (disch := first | with_reducible assumption | omega | (simp only [zS, zA, Nat.reduceEqDiff, Nat.reduceLT, Nat.reduceLeDiff, Nat.reduceAdd, Nat.reduceSub, reduceCtorEq, zD] <;> omega) | fail) only [zS, argl, insA, Go.Den.wm, wo, wu, looks, wfb, web, idOf, riA, Nat.reduceLeDiff, Nat.reduceLT, Nat.reduceEqDiff, Nat.reduceDiv, Nat.reduceMod, Int.reduceLT, Int.reduceLE, Int.reduceEq, Int.reduceNeg, Int.reduceToNat, Int.reduceSub, Int.reduceMul, Int.reduceNe, Nat.reduceAdd, Nat.reduceMul, Nat.reduceSub, Int.reduceAdd, reduceCtorEq, Go.Den.wh, kK, wmb, wrb, *, zT]) | (with_reducible (first | apply z1 | apply z2 | apply z3 | apply z4) <;> intro hq <;> (try simp only [zH] at hq) <;> (try (exfalso; omega))))); all_goals trace_state
    | true => (repeat' (first | (simp -implicitDefEqProofs (maxSteps := 2000000) (disch := first | with_reducible assumption | omega | (simp only [zS, zA, Nat.reduceEqDiff, Nat.reduceLT, Nat.reduceLeDiff, Nat.reduceAdd, Nat.reduceSub, reduceCtorEq, zD] <;> omega) | fail) only [zS, argl, insA, Go.Den.wm, wo, wu, looks, wfb, web, idOf, riA, Nat.reduceLeDiff, Nat.reduceLT, Nat.reduceEqDiff, Nat.reduceDiv, Nat.reduceMod, Int.reduceLT, Int.reduceLE, Int.reduceEq, Int.reduceNeg, Int.reduceToNat, Int.reduceSub, Int.reduceMul, Int.reduceNe, Nat.reduceAdd, Nat.reduceMul, Nat.reduceSub, Int.reduceAdd, reduceCtorEq, Go.Den.wh, kK, wmb, wrb, *, zT]) | (with_reducible (first | apply z1 | apply z2 | apply z3 | apply z4) <;> intro hq <;> (try simp only [zH] at hq) <;> (try (exfalso; omega))))); all_goals trace_state
  · have hq2 : ¬ (wed r : Int) ≤ 40 := by omega
    rw [decide_eq_false hq]
    (repeat' (first | (simp -implicitDefEqProofs (maxSteps := 2000000) (disch := first | with_reducible assumption | omega | (simp only [zS, zA, Nat.reduceEqDiff, Nat.reduceLT, Nat.reduceLeDiff, Nat.reduceAdd, Nat.reduceSub, reduceCtorEq, zD] <;> omega) | fail) only [zS, argl, insA, Go.Den.wm, wo, wu, looks, wfb, web, idOf, riA, Nat.reduceLeDiff, Nat.reduceLT, Nat.reduceEqDiff, Nat.reduceDiv, Nat.reduceMod, Int.reduceLT, Int.reduceLE, Int.reduceEq, Int.reduceNeg, Int.reduceToNat, Int.reduceSub, Int.reduceMul, Int.reduceNe, Nat.reduceAdd, Nat.reduceMul, Nat.reduceSub, Int.reduceAdd, reduceCtorEq, Go.Den.wh, kK, wmb, wrb, *, zT]) | (with_reducible (first | apply z1 | apply z2 | apply z3 | apply z4) <;> intro hq <;> (try simp only [zH] at hq) <;> (try (exfalso; omega)))))
end
end Go.Proofs.Ytdbhfmdndiphcaa
namespace Go.Proofs.Ytdbhfmdndiphcaa
set_option linter.unusedVariables false
set_option linter.unusedSimpArgs false
open Go.Den
noncomputable section
theorem wadc {k mn mx n : Int} {s : BitVec 256} {l : List Rx} (h : wao (.mk k mn mx n s l) = true) :
    (k = 5 → l ≠ []) ∧ (k = 4 → l ≠ [] ∧ 0 ≤ mn ∧ mn ≤ 20 ∧ -1 ≤ mx ∧ mx ≤ 20) := by
  constructor
  · intro h5; subst h5
    have h3 : decide ((l.length : Int) = 1) = true := h
    rw [decide_eq_true_eq] at h3
    intro he; subst he; simp at h3
  · intro h4; subst h4
    have h3 : (decide ((l.length : Int) = 1) && (l.any (wwh [1, 5, 6]) && repF (.mk 4 mn mx n s l))) = true := h
    rw [Bool.and_eq_true, Bool.and_eq_true, decide_eq_true_eq] at h3
    have h5 : (decide (0 ≤ mn) && (decide (mn ≤ 20) && (decide (mx = -1) || (decide (max mn 1 ≤ mx) && decide (mx ≤ 20))))) = true := h3.2.2
    simp only [Bool.and_eq_true, Bool.or_eq_true, decide_eq_true_eq] at h5
    refine ⟨fun he => by subst he; simp at h3, h5.1, h5.2.1, ?_, ?_⟩ <;> omega
theorem walk_ok : ∀ (r : Rx) (d g : Int), 0 ≤ g → (wxh r d g).1 = true → (wxh r d g).2 ≤ 3 → okR r = true := by
  refine Rx.rec (motive_1 := fun r => ∀ (d g : Int), 0 ≤ g → (wxh r d g).1 = true → (wxh r d g).2 ≤ 3 → okR r = true) (motive_2 := fun l => ∀ (d g : Int), 0 ≤ g → (wrf l d g).1 = true → (wrf l d g).2 ≤ 3 → okRs l = true) ?_ ?_ ?_
  · intro k mn mx n s l ih d g hg h1 h2
    have hle : ∀ d g, g ≤ (wrf l d g).2 := by
      clear ih h1 h2 hg
      induction l with
      | nil => intro d g; rw [wrf]; exact Int.le_refl _
      | cons a l ih =>
        intro d g
        rw [wrf]
        have := (wocb a d g).1
        split
        · have := ih d (wxh a d g).2; omega
        · exact this
    rw [wxh] at h1 h2
    rw [okR, Bool.and_eq_true]
    by_cases hb : wclb (.mk k mn mx n s l) = true
    · rw [if_pos hb] at h1 h2
      by_cases hk : wao (.mk k mn mx n s l) = true
      · rw [if_pos hk] at h1 h2
        have ⟨k5, k4⟩ := wadc hk
        by_cases h5 : k = 5
        · rw [if_pos h5] at h1 h2
          rw [if_pos h5]
          by_cases hn : n = g + 1
          · rw [if_pos hn] at h1 h2
            by_cases hd : d + 1 ≤ 6
            · rw [if_pos hd] at h1 h2
              have := hle (d + 1) (g + 1)
              refine ⟨?_, ih _ _ (by omega) h1 h2⟩
              simp only [Bool.and_eq_true, decide_eq_true_eq]
              exact ⟨k5 h5, by omega, by omega⟩
            · rw [if_neg hd] at h1; cases h1
          · rw [if_neg hn] at h1; cases h1
        · rw [if_neg h5] at h1 h2 ⊢
          by_cases h6 : k = 6
          · rw [if_pos h6] at h1 h2
            rw [if_neg (by omega), if_pos h6]
            simp only [Bool.and_eq_true, decide_eq_true_eq] at h1 ⊢
            have hl0 : l = [] := by
              subst h6
              have h3 : decide ((l.length : Int) = 0) = true := hk
              rw [decide_eq_true_eq] at h3
              exact List.eq_nil_of_length_eq_zero (by omega)
            subst hl0
            exact ⟨⟨h1.1, by simp only at h2; omega⟩, by rw [okRs]⟩
          · rw [if_neg h6] at h1 h2 ⊢
            refine ⟨?_, ih _ _ hg h1 h2⟩
            by_cases h4 : k = 4
            · rw [if_pos h4]
              simp only [Bool.and_eq_true, decide_eq_true_eq]
              exact k4 h4
            · rw [if_neg h4]
      · rw [if_neg hk] at h1; cases h1
    · rw [if_neg hb] at h1; cases h1
  · intro _ _ _ _ _; rw [okRs]
  · intro r l h1 h2 d g hg h3 h4
    rw [wrf] at h3 h4
    have hw := wocb r d g
    by_cases hr : (wxh r d g).1 = true
    · rw [if_pos hr] at h3 h4
      have hle : ∀ (l : List Rx) (d g : Int), g ≤ (wrf l d g).2 := by
        intro l
        induction l with
        | nil => intro d g; rw [wrf]; exact Int.le_refl _
        | cons a l ih =>
          intro d g
          rw [wrf]
          have := (wocb a d g).1
          split
          · have := ih d (wxh a d g).2; omega
          · exact this
      have := hle l d (wxh r d g).2
      rw [okRs, Bool.and_eq_true]
      exact ⟨h1 d g hg hr (by omega), h2 d _ (by omega) h3 h4⟩
    · rw [if_neg hr] at h3; cases h3
theorem wlnb {r : Rx} (h : wkl r = true) : okR r = true := by
  rw [wkl, Bool.and_eq_true, Bool.and_eq_true, decide_eq_true_eq, decide_eq_true_eq] at h
  exact walk_ok r 0 0 (Int.le_refl _) h.2.1 h.2.2
theorem ev_ways (s : List UInt8) (bol : Bool) (hs : s.length ≤ 12) : ∀ r : Rx, wed r ≤ 1000000 → okR r = true → wtcc s bol r := by
  refine Rx.rec (motive_1 := fun r => wed r ≤ 1000000 → okR r = true → wtcc s bol r) (motive_2 := fun l => wyc l ≤ 1000000 → okRs l = true → wlgb s bol l) ?_ ?_ ?_
  · intro k mn mx n set l ih hn hok
    rw [wed] at hn
    have hl := wvw l
    refine wucc s bol hs k mn mx n set l (by omega) hok (ih (by omega) ?_)
    rw [okR, Bool.and_eq_true] at hok
    exact hok.2
  · intro _ _ r h; cases h
  · intro r l h1 h2 hn hok x hx
    rw [wyc] at hn
    rw [okRs, Bool.and_eq_true] at hok
    rcases List.mem_cons.1 hx with rfl | hx
    · intro y hy
      exact ⟨wicb (s := s) rfl (bol := bol) _ hok.1 y hy, h1 (by omega) hok.1 y hy⟩
    · exact h2 (by omega) hok.2 x hx
theorem startG {len : Nat} {a : Int} (h1 : 0 ≤ a) (h2 : a ≤ len) : GdS len (a, waj) := by
  refine ⟨h1, h2, rfl, rfl, fun g g1 g3 => .inl ?_⟩
  rcases (show g = 1 ∨ g = 2 ∨ g = 3 by omega) with rfl | rfl | rfl <;> exact ⟨rfl, rfl⟩
def wvm (r : Rx) (s : List UInt8) (bol : Bool) (a : Int) : List St := if wkl r = true ∧ 0 ≤ a ∧ a ≤ s.length then wpf s bol r (a, waj) else []
theorem wmz {r : Rx} {s : List UInt8} {bol : Bool} {a : Int} : RwS s.length a (wvm r s bol a) := by
  unfold wvm
  split
  · rename_i h
    exact wicb (s := s) rfl (bol := bol) r (wlnb h.1) (a, waj) (startG h.2.1 h.2.2)
  · exact .nil
theorem ev_Ways (r : Rx) (hn : wed r ≤ 1000000) (s : List UInt8) (hs : s.length ≤ 12) (bol : Bool) (a : Int) : lim Try.prog cfg (.call 40 [.agg ⟨rxC r⟩, str s, .bool bol, .int .i64 a]) (HP []) = some (.val (FL (wvm r s bol a).length (stsC (wvm r s bol a))), HP []) := by
  have h := wknb r hn
  refine wjc hc wqx (Nat.le_of_ble_eq_true rfl) (Nat.le_of_ble_eq_true rfl) ?_
  unfold wfw wvm
  have h0 := wfcc
  cases hr : wkl r with
  | false =>
    rw [if_neg (by simp)]
    rw [hr] at h
    clear hr h0
    (repeat' (first | (simp -implicitDefEqProofs (maxSteps := 2000000) (disch := first | with_reducible assumption | omega | (simp only [zS, zA, Nat.reduceEqDiff, Nat.reduceLT, Nat.reduceLeDiff, Nat.reduceAdd, Nat.reduceSub, reduceCtorEq, zD] <;> omega) | fail) only [zS, argl, insA, Go.Den.wm, wo, wu, looks, wfb, web, idOf, riA, Nat.reduceLeDiff, Nat.reduceLT, Nat.reduceEqDiff, Nat.reduceDiv, Nat.reduceMod, Int.reduceLT, Int.reduceLE, Int.reduceEq, Int.reduceNeg, Int.reduceToNat, Int.reduceSub, Int.reduceMul, Int.reduceNe, Nat.reduceAdd, Nat.reduceMul, Nat.reduceSub, Int.reduceAdd, reduceCtorEq, Go.Den.wh, kK, wmb, wrb, *, zT]) | (with_reducible (first | apply z1 | apply z2 | apply z3 | apply z4) <;> intro hq <;> (try simp only [zH] at hq) <;> (try (exfalso; omega))) | (with_reducible apply z5; (case hl => (repeat (first | exact .nil | with_reducible apply z6 | with_reducible apply z7))); (case h => kernel_rfl))))
  | true =>
    rw [hr] at h
    by_cases h1 : 0 ≤ a
    · by_cases h2 : a ≤ s.length
      · rw [if_pos ⟨rfl, h1, h2⟩]
        have hw := ev_ways s bol hs r hn (wlnb hr) (a, waj) (startG h1 h2)
        rw [← st_fold] at hw
        clear hr
        (repeat' (first | (simp -implicitDefEqProofs (maxSteps := 2000000) (disch := first | with_reducible assumption | omega | (simp only [zS, zA, Nat.reduceEqDiff, Nat.reduceLT, Nat.reduceLeDiff, Nat.reduceAdd, Nat.reduceSub, reduceCtorEq, zD] <;> omega) | fail) only [zS, argl, insA, Go.Den.wm, wo, wu, looks, wfb, web, idOf, riA, Nat.reduceLeDiff, Nat.reduceLT, Nat.reduceEqDiff, Nat.reduceDiv, Nat.reduceMod, Int.reduceLT, Int.reduceLE, Int.reduceEq, Int.reduceNeg, Int.reduceToNat, Int.reduceSub, Int.reduceMul, Int.reduceNe, Nat.reduceAdd, Nat.reduceMul, Nat.reduceSub, Int.reduceAdd, reduceCtorEq, Go.Den.wh, kK, wmb, wrb, *, zT]) | (with_reducible (first | apply z1 | apply z2 | apply z3 | apply z4) <;> intro hq <;> (try simp only [zH] at hq) <;> (try (exfalso; omega))) | (with_reducible apply z5; (case hl => (repeat (first | exact .nil | with_reducible apply z6 | with_reducible apply z7))); (case h => kernel_rfl))))
      · rw [if_neg (fun h => h2 h.2.2)]
        clear hr h0
        (repeat' (first | (simp -implicitDefEqProofs (maxSteps := 2000000) (disch := first | with_reducible assumption | omega | (simp only [zS, zA, Nat.reduceEqDiff, Nat.reduceLT, Nat.reduceLeDiff, Nat.reduceAdd, Nat.reduceSub, reduceCtorEq, zD] <;> omega) | fail) only [zS, argl, insA, Go.Den.wm, wo, wu, looks, wfb, web, idOf, riA, Nat.reduceLeDiff, Nat.reduceLT, Nat.reduceEqDiff, Nat.reduceDiv, Nat.reduceMod, Int.reduceLT, Int.reduceLE, Int.reduceEq, Int.reduceNeg, Int.reduceToNat, Int.reduceSub, Int.reduceMul, Int.reduceNe, Nat.reduceAdd, Nat.reduceMul, Nat.reduceSub, Int.reduceAdd, reduceCtorEq, Go.Den.wh, kK, wmb, wrb, *, zT]) | (with_reducible (first | apply z1 | apply z2 | apply z3 | apply z4) <;> intro hq <;> (try simp only [zH] at hq) <;> (try (exfalso; omega))) | (with_reducible apply z5; (case hl => (repeat (first | exact .nil | with_reducible apply z6 | with_reducible apply z7))); (case h => kernel_rfl))))
    · rw [if_neg (fun h => h1 h.2.1)]
      clear hr h0
      (repeat' (first | (simp -implicitDefEqProofs (maxSteps := 2000000) (disch := first | with_reducible assumption | omega | (simp only [zS, zA, Nat.reduceEqDiff, Nat.reduceLT, Nat.reduceLeDiff, Nat.reduceAdd, Nat.reduceSub, reduceCtorEq, zD] <;> omega) | fail) only [zS, argl, insA, Go.Den.wm, wo, wu, looks, wfb, web, idOf, riA, Nat.reduceLeDiff, Nat.reduceLT, Nat.reduceEqDiff, Nat.reduceDiv, Nat.reduceMod, Int.reduceLT, Int.reduceLE, Int.reduceEq, Int.reduceNeg, Int.reduceToNat, Int.reduceSub, Int.reduceMul, Int.reduceNe, Nat.reduceAdd, Nat.reduceMul, Nat.reduceSub, Int.reduceAdd, reduceCtorEq, Go.Den.wh, kK, wmb, wrb, *, zT]) | (with_reducible (first | apply z1 | apply z2 | apply z3 | apply z4) <;> intro hq <;> (try simp only [zH] at hq) <;> (try (exfalso; omega))) | (with_reducible apply z5; (case hl => (repeat (first | exact .nil | with_reducible apply z6 | with_reducible apply z7))); (case h => kernel_rfl))))
end
end Go.Proofs.Ytdbhfmdndiphcaa
namespace Go.Proofs.Ytdbhfmdndiphcaa
set_option linter.unusedVariables false
set_option linter.unusedSimpArgs false
open Go.Den
noncomputable section
def wiq : List St → Option St → Option St
  | [], b => b
  | x :: l, none => wiq l (some x)
  | x :: l, some b => wiq l (if x.1 > b.1 then some x else some b)
def bst (b : Option St) : St := b.getD St.zero
abbrev fiB (r : Rx) (b : Option St) : List ABlk := [X (rxC r) 47 0 true, X (mtC Mt.zero) 55 0 true, X (stC (bst b)) 113 0 true]
theorem first_in (r : Rx) (s : List UInt8) (a : Int) (l : List St) (hl : l.length ≤ 16000000) : ∀ (k i : Nat) (b : Option St), i + k = l.length →
    lim Try.prog cfg (.loop 28 0 (wze 1) (SE (EJ 70 G0) [(45, .int .i64 i), (44, .int .i64 l.length), (43, FL l.length (stsC l)), (10, .bool b.isSome), (9, .pointer (some ⟨2, 0, none⟩)), (8, .int .i64 a), (6, .pointer (some ⟨1, 0, none⟩)), (3, .pointer (some ⟨0, 0, none⟩)), (1, str s)])) (HP (fiB r b)) = some (.code (.exit 2) (SE (EJ 70 G0) [(10, .bool (wiq (l.drop i) b).isSome), (9, .pointer (some ⟨2, 0, none⟩)), (8, .int .i64 a), (6, .pointer (some ⟨1, 0, none⟩)), (3, .pointer (some ⟨0, 0, none⟩)), (1, str s)]), HP (fiB r (wiq (l.drop i) b))) := by
  intro k
  induction k with
  | zero =>
    intro i b hi
    rw [List.drop_of_length_le (by omega), wiq]
    refine ww wig ?_
    unfold wng
    (repeat' (first | (simp -implicitDefEqProofs (maxSteps := 2000000) (disch := first | with_reducible assumption | omega | (simp only [zS, zA, Nat.reduceEqDiff, Nat.reduceLT, Nat.reduceLeDiff, Nat.reduceAdd, Nat.reduceSub, reduceCtorEq, wqt, wif, zD] <;> omega) | fail) only [zS, argl, insA, Go.Den.wm, wo, wu, looks, wfb, web, idOf, riA, Nat.reduceLeDiff, Nat.reduceLT, Nat.reduceEqDiff, Nat.reduceDiv, Nat.reduceMod, Int.reduceLT, Int.reduceLE, Int.reduceEq, Int.reduceNeg, Int.reduceToNat, Int.reduceSub, Int.reduceMul, Int.reduceNe, Nat.reduceAdd, Nat.reduceMul, Nat.reduceSub, Int.reduceAdd, reduceCtorEq, Go.Den.wh, kK, wre, *, zT]) | (with_reducible (first | apply z1 | apply z2 | apply z3 | apply z4) <;> intro hq <;> (try simp only [zH] at hq) <;> (try (exfalso; omega)))))
  | succ k ih =>
    intro i b hi
    rw [wqg l (by omega)]
    cases b with
    | none =>
      have h := ih (i + 1) (some (l.getD i St.zero)) (by omega)
      rw [wiq]
      clear ih
      refine ww wig ?_
      unfold wng
      (repeat' (first | (simp -implicitDefEqProofs (maxSteps := 2000000) (disch := first | with_reducible assumption | omega | (simp only [zS, zA, Nat.reduceEqDiff, Nat.reduceLT, Nat.reduceLeDiff, Nat.reduceAdd, Nat.reduceSub, reduceCtorEq, wqt, wif, zD] <;> omega) | fail) only [zS, argl, insA, Go.Den.wm, wo, wu, looks, wfb, web, idOf, riA, Nat.reduceLeDiff, Nat.reduceLT, Nat.reduceEqDiff, Nat.reduceDiv, Nat.reduceMod, Int.reduceLT, Int.reduceLE, Int.reduceEq, Int.reduceNeg, Int.reduceToNat, Int.reduceSub, Int.reduceMul, Int.reduceNe, Nat.reduceAdd, Nat.reduceMul, Nat.reduceSub, Int.reduceAdd, reduceCtorEq, Go.Den.wh, kK, wre, wmb, wrb, Option.isSome_none, *, zT]) | (with_reducible (first | apply z1 | apply z2 | apply z3 | apply z4) <;> intro hq <;> (try simp only [zH] at hq) <;> (try (exfalso; omega)))))
      exact h
    | some b =>
      rw [wiq]
      by_cases hq : (l.getD i St.zero).1 > b.1
      · rw [if_pos hq]
        have h := ih (i + 1) (some (l.getD i St.zero)) (by omega)
        clear ih
        refine ww wig ?_
        unfold wng
        (repeat' (first | (simp -implicitDefEqProofs (maxSteps := 2000000) (disch := first | with_reducible assumption | omega | (simp only [zS, zA, Nat.reduceEqDiff, Nat.reduceLT, Nat.reduceLeDiff, Nat.reduceAdd, Nat.reduceSub, reduceCtorEq, wqt, wif, zD] <;> omega) | fail) only [zS, argl, insA, Go.Den.wm, wo, wu, looks, wfb, web, idOf, riA, Nat.reduceLeDiff, Nat.reduceLT, Nat.reduceEqDiff, Nat.reduceDiv, Nat.reduceMod, Int.reduceLT, Int.reduceLE, Int.reduceEq, Int.reduceNeg, Int.reduceToNat, Int.reduceSub, Int.reduceMul, Int.reduceNe, Nat.reduceAdd, Nat.reduceMul, Nat.reduceSub, Int.reduceAdd, reduceCtorEq, Go.Den.wh, kK, wre, wmb, wrb, bst, Option.getD_some, *, zT]) | (with_reducible (first | apply z1 | apply z2 | apply z3 | apply z4) <;> intro hq <;> (try simp only [zH] at hq) <;> (try (exfalso; omega)))))
        exact h
      · rw [if_neg hq]
        have h := ih (i + 1) (some b) (by omega)
        clear ih
        refine ww wig ?_
        unfold wng
        (repeat' (first | (simp -implicitDefEqProofs (maxSteps := 2000000) (disch := first | with_reducible assumption | omega | (simp only [zS, zA, Nat.reduceEqDiff, Nat.reduceLT, Nat.reduceLeDiff, Nat.reduceAdd, Nat.reduceSub, reduceCtorEq, wqt, wif, zD] <;> omega) | fail) only [zS, argl, insA, Go.Den.wm, wo, wu, looks, wfb, web, idOf, riA, Nat.reduceLeDiff, Nat.reduceLT, Nat.reduceEqDiff, Nat.reduceDiv, Nat.reduceMod, Int.reduceLT, Int.reduceLE, Int.reduceEq, Int.reduceNeg, Int.reduceToNat, Int.reduceSub, Int.reduceMul, Int.reduceNe, Nat.reduceAdd, Nat.reduceMul, Nat.reduceSub, Int.reduceAdd, reduceCtorEq, Go.Den.wh, kK, wre, wmb, wrb, bst, Option.getD_some, *, zT]) | (with_reducible (first | apply z1 | apply z2 | apply z3 | apply z4) <;> intro hq <;> (try simp only [zH] at hq) <;> (try (exfalso; omega)))))
        exact h
end
end Go.Proofs.Ytdbhfmdndiphcaa
namespace Go.Proofs.Ytdbhfmdndiphcaa
set_option linter.unusedVariables false
set_option linter.unusedSimpArgs false
open Go.Den
noncomputable section
def wsk (r : Rx) (s : List UInt8) : Nat → Int → Option Mt
  | 0, _ => none
  | k + 1, a => match wiq (wvm r s true a) none with
    | some b => some ((b.2.put 0 a).put 1 b.1)
    | none => wsk r s k (a + 1)
def firO : Option Mt → Option (Out × AH)
  | none => some (.code (.exit 0) (SE (EJ 70 G0) [(7, JK), (6, .pointer (some ⟨0, 0, none⟩))]), HP [X (mtC Mt.zero) 55 0 true])
  | some m => some (.code .ret (SE (EJ 70 G0) [(7, .bool true), (6, .pointer (some ⟨0, 0, none⟩))]), HP [X (mtC m) 55 0 true])
theorem st_set12 {b : St} {x y : Int} : ((stC b).set 1 (.int .i64 x)).set 2 (.int .i64 y) = stC (b.1, (b.2.put 0 x).put 1 y) := by
  show (Value.int .i64 b.1 :: ((mtC b.2).set 0 _).set 1 _) = _
  rw [wgbc, wgbc]; rfl
theorem ej70 : (EJ 70 G0).get 7 = JK := rfl
set_option maxHeartbeats 4000000 in
theorem wbdc (r : Rx) (hn : wed r ≤ 1000000) (s : List UInt8) (hs : s.length ≤ 12) : ∀ (k : Nat) (a : Int), 0 ≤ a → a + k = s.length + 1 →
    lim Try.prog cfg (.loop 28 0 (wze 0) (SE (EJ 70 G0) [(8, .int .i64 a), (6, .pointer (some ⟨1, 0, none⟩)), (3, .pointer (some ⟨0, 0, none⟩)), (1, str s)])) (HP [X (rxC r) 47 0 true, X (mtC Mt.zero) 55 0 true]) = firO (wsk r s k a) := by
  intro k
  induction k with
  | zero =>
    intro a h0 hi
    rw [wsk, firO]
    refine ww wjg ?_
    unfold wog
    (repeat' (first | (simp -implicitDefEqProofs (maxSteps := 2000000) (disch := first | with_reducible assumption | omega | (simp only [zS, zA, Nat.reduceEqDiff, Nat.reduceLT, Nat.reduceLeDiff, Nat.reduceAdd, Nat.reduceSub, reduceCtorEq, wbb, wib, wqt, wif, zD] <;> omega) | fail) only [zS, argl, insA, Go.Den.wm, wo, wu, looks, wfb, web, idOf, riA, Nat.reduceLeDiff, Nat.reduceLT, Nat.reduceEqDiff, Nat.reduceDiv, Nat.reduceMod, Int.reduceLT, Int.reduceLE, Int.reduceEq, Int.reduceNeg, Int.reduceToNat, Int.reduceSub, Int.reduceMul, Int.reduceNe, Nat.reduceAdd, Nat.reduceMul, Nat.reduceSub, Int.reduceAdd, reduceCtorEq, Go.Den.wh, kK, wpd, wbb, wib, ej70, *, zT]) | (with_reducible (first | apply z1 | apply z2 | apply z3 | apply z4) <;> intro hq <;> (try simp only [zH] at hq) <;> (try (exfalso; omega)))))
  | succ k ih =>
    intro a h0 hi
    have h := ih (a + 1) (by omega) (by omega)
    have hw := ev_Ways r hn s hs true a
    have hl := row_len (wmz (r := r) (s := s) (bol := true) (a := a)) hs
    have h2 := first_in r s a (wvm r s true a) (by omega) _ 0 none (by rw [Nat.zero_add])
    unfold fiB at h2
    rw [List.drop_zero, show ((0 : Nat) : Int) = 0 from rfl, show bst none = St.zero from rfl, show (none : Option St).isSome = false from rfl] at h2
    rw [wsk]
    clear ih
    generalize wvm r s true a = l at hw hl h2 ⊢
    generalize wiq l none = b at h2 ⊢
    have hz : stC St.zero = [.int .i64 0, .int .i64 0, .int .i64 0, .int .i64 0, .int .i64 0, .int .i64 0, .int .i64 0, .int .i64 0, .int .i64 0] := rfl
    rw [hz] at h2
    cases b with
    | none =>
      rw [show bst none = St.zero from rfl, show (none : Option St).isSome = false from rfl, hz] at h2
      clear hz
      generalize wsk r s k (a + 1) = o at h ⊢
      cases o with
      | none =>
        rw [firO] at h ⊢
        refine ww wjg ?_
        unfold wog
        (repeat' (first | (simp -implicitDefEqProofs (maxSteps := 2000000) (disch := first | with_reducible assumption | omega | (simp only [zS, zA, Nat.reduceEqDiff, Nat.reduceLT, Nat.reduceLeDiff, Nat.reduceAdd, Nat.reduceSub, reduceCtorEq, wbb, wib, wqt, wif, zD] <;> omega) | fail) only [zS, argl, insA, Go.Den.wm, wo, wu, looks, wfb, web, idOf, riA, Nat.reduceLeDiff, Nat.reduceLT, Nat.reduceEqDiff, Nat.reduceDiv, Nat.reduceMod, Int.reduceLT, Int.reduceLE, Int.reduceEq, Int.reduceNeg, Int.reduceToNat, Int.reduceSub, Int.reduceMul, Int.reduceNe, Nat.reduceAdd, Nat.reduceMul, Nat.reduceSub, Int.reduceAdd, reduceCtorEq, Go.Den.wh, kK, wpd, wre, wbb, wib, ej70, *, zT]) | (with_reducible (first | apply z1 | apply z2 | apply z3 | apply z4) <;> intro hq <;> (try simp only [zH] at hq) <;> (try (exfalso; omega)))))
      | some m =>
        rw [firO] at h ⊢
        refine ww wjg ?_
        unfold wog
        (repeat' (first | (simp -implicitDefEqProofs (maxSteps := 2000000) (disch := first | with_reducible assumption | omega | (simp only [zS, zA, Nat.reduceEqDiff, Nat.reduceLT, Nat.reduceLeDiff, Nat.reduceAdd, Nat.reduceSub, reduceCtorEq, wbb, wib, wqt, wif, zD] <;> omega) | fail) only [zS, argl, insA, Go.Den.wm, wo, wu, looks, wfb, web, idOf, riA, Nat.reduceLeDiff, Nat.reduceLT, Nat.reduceEqDiff, Nat.reduceDiv, Nat.reduceMod, Int.reduceLT, Int.reduceLE, Int.reduceEq, Int.reduceNeg, Int.reduceToNat, Int.reduceSub, Int.reduceMul, Int.reduceNe, Nat.reduceAdd, Nat.reduceMul, Nat.reduceSub, Int.reduceAdd, reduceCtorEq, Go.Den.wh, kK, wpd, wre, wbb, wib, ej70, *, zT]) | (with_reducible (first | apply z1 | apply z2 | apply z3 | apply z4) <;> intro hq <;> (try simp only [zH] at hq) <;> (try (exfalso; omega)))))
    | some b =>
      rw [show bst (some b) = b from rfl, show (some b).isSome = true from rfl] at h2
      rw [firO]
      clear hz h
      refine ww wjg ?_
      unfold wog
      (repeat' (first | (simp -implicitDefEqProofs (maxSteps := 2000000) (disch := first | with_reducible assumption | omega | (simp only [zS, zA, Nat.reduceEqDiff, Nat.reduceLT, Nat.reduceLeDiff, Nat.reduceAdd, Nat.reduceSub, reduceCtorEq, wbb, wib, wqt, wif, zD] <;> omega) | fail) only [zS, argl, insA, Go.Den.wm, wo, wu, looks, wfb, web, idOf, riA, Nat.reduceLeDiff, Nat.reduceLT, Nat.reduceEqDiff, Nat.reduceDiv, Nat.reduceMod, Int.reduceLT, Int.reduceLE, Int.reduceEq, Int.reduceNeg, Int.reduceToNat, Int.reduceSub, Int.reduceMul, Int.reduceNe, Nat.reduceAdd, Nat.reduceMul, Nat.reduceSub, Int.reduceAdd, reduceCtorEq, Go.Den.wh, kK, wpd, wre, st_set12, wbb, wib, ej70, *, zT]) | (with_reducible (first | apply z1 | apply z2 | apply z3 | apply z4) <;> intro hq <;> (try simp only [zH] at hq) <;> (try (exfalso; omega)))))
def wcj (r : Rx) (s : List UInt8) (a : Int) : Option Mt := if wkl r = true ∧ 0 ≤ a ∧ a ≤ s.length then wsk r s (s.length + 1 - a).toNat a else none
theorem wqcb (r : Rx) (hn : wed r ≤ 1000000) (s : List UInt8) (hs : s.length ≤ 12) (a : Int) : lim Try.prog cfg (.call 28 [.agg ⟨rxC r⟩, str s, .int .i64 a]) (HP []) = some (.val (.tuple ⟨[.agg ⟨mtC ((wcj r s a).getD waj)⟩, .bool (wcj r s a).isSome]⟩), HP []) := by
  have hr := wknb r hn
  have h0 := wfcc
  refine wjc hc wot (Nat.le_of_ble_eq_true rfl) (Nat.le_of_ble_eq_true rfl) ?_
  unfold wvr wcj
  cases hrv : wkl r with
  | false =>
    rw [if_neg (by simp), Option.getD_none, Option.isSome_none]
    rw [hrv] at hr
    clear hrv
    (repeat' (first | (simp -implicitDefEqProofs (maxSteps := 2000000) (disch := first | with_reducible assumption | omega | (simp only [zS, zA, Nat.reduceEqDiff, Nat.reduceLT, Nat.reduceLeDiff, Nat.reduceAdd, Nat.reduceSub, reduceCtorEq, wif, zD] <;> omega) | fail) only [zS, argl, insA, Go.Den.wm, wo, wu, looks, wfb, web, idOf, riA, Nat.reduceLeDiff, Nat.reduceLT, Nat.reduceEqDiff, Nat.reduceDiv, Nat.reduceMod, Int.reduceLT, Int.reduceLE, Int.reduceEq, Int.reduceNeg, Int.reduceToNat, Int.reduceSub, Int.reduceMul, Int.reduceNe, Nat.reduceAdd, Nat.reduceMul, Nat.reduceSub, Int.reduceAdd, reduceCtorEq, Go.Den.wh, kK, wpd, wmb, wrb, *, zT]) | (with_reducible (first | apply z1 | apply z2 | apply z3 | apply z4) <;> intro hq <;> (try simp only [zH] at hq) <;> (try (exfalso; omega)))))
  | true =>
    rw [hrv] at hr
    clear hrv
    by_cases h1 : 0 ≤ a
    · by_cases h2 : a ≤ s.length
      · rw [if_pos ⟨rfl, h1, h2⟩]
        have h := wbdc r hn s hs (s.length + 1 - a).toNat a h1 (by omega)
        generalize wsk r s (s.length + 1 - a).toNat a = o at h ⊢
        cases o with
        | none =>
          rw [firO] at h
          rw [Option.getD_none, Option.isSome_none]
          rw [show mtC Mt.zero = [.int .i64 0, .int .i64 0, .int .i64 0, .int .i64 0, .int .i64 0, .int .i64 0, .int .i64 0, .int .i64 0] from rfl] at h
          (repeat' (first | (simp -implicitDefEqProofs (maxSteps := 2000000) (disch := first | with_reducible assumption | omega | (simp only [zS, zA, Nat.reduceEqDiff, Nat.reduceLT, Nat.reduceLeDiff, Nat.reduceAdd, Nat.reduceSub, reduceCtorEq, wbb, wib, wif, zD] <;> omega) | fail) only [zS, argl, insA, Go.Den.wm, wo, wu, looks, wfb, web, idOf, riA, Nat.reduceLeDiff, Nat.reduceLT, Nat.reduceEqDiff, Nat.reduceDiv, Nat.reduceMod, Int.reduceLT, Int.reduceLE, Int.reduceEq, Int.reduceNeg, Int.reduceToNat, Int.reduceSub, Int.reduceMul, Int.reduceNe, Nat.reduceAdd, Nat.reduceMul, Nat.reduceSub, Int.reduceAdd, reduceCtorEq, Go.Den.wh, kK, wpd, wmb, wrb, wbb, wib, ej70, *, zT]) | (with_reducible (first | apply z1 | apply z2 | apply z3 | apply z4) <;> intro hq <;> (try simp only [zH] at hq) <;> (try (exfalso; omega)))))
        | some m =>
          rw [firO] at h
          rw [Option.getD_some, Option.isSome_some]
          rw [show mtC Mt.zero = [.int .i64 0, .int .i64 0, .int .i64 0, .int .i64 0, .int .i64 0, .int .i64 0, .int .i64 0, .int .i64 0] from rfl] at h
          clear h0
          (repeat' (first | (simp -implicitDefEqProofs (maxSteps := 2000000) (disch := first | with_reducible assumption | omega | (simp only [zS, zA, Nat.reduceEqDiff, Nat.reduceLT, Nat.reduceLeDiff, Nat.reduceAdd, Nat.reduceSub, reduceCtorEq, wbb, wib, wif, zD] <;> omega) | fail) only [zS, argl, insA, Go.Den.wm, wo, wu, looks, wfb, web, idOf, riA, Nat.reduceLeDiff, Nat.reduceLT, Nat.reduceEqDiff, Nat.reduceDiv, Nat.reduceMod, Int.reduceLT, Int.reduceLE, Int.reduceEq, Int.reduceNeg, Int.reduceToNat, Int.reduceSub, Int.reduceMul, Int.reduceNe, Nat.reduceAdd, Nat.reduceMul, Nat.reduceSub, Int.reduceAdd, reduceCtorEq, Go.Den.wh, kK, wpd, wmb, wrb, wbb, wib, ej70, *, zT]) | (with_reducible (first | apply z1 | apply z2 | apply z3 | apply z4) <;> intro hq <;> (try simp only [zH] at hq) <;> (try (exfalso; omega)))))
      · rw [if_neg (fun h => h2 h.2.2), Option.getD_none, Option.isSome_none]
        (repeat' (first | (simp -implicitDefEqProofs (maxSteps := 2000000) (disch := first | with_reducible assumption | omega | (simp only [zS, zA, Nat.reduceEqDiff, Nat.reduceLT, Nat.reduceLeDiff, Nat.reduceAdd, Nat.reduceSub, reduceCtorEq, wif, zD] <;> omega) | fail) only [zS, argl, insA, Go.Den.wm, wo, wu, looks, wfb, web, idOf, riA, Nat.reduceLeDiff, Nat.reduceLT, Nat.reduceEqDiff, Nat.reduceDiv, Nat.reduceMod, Int.reduceLT, Int.reduceLE, Int.reduceEq, Int.reduceNeg, Int.reduceToNat, Int.reduceSub, Int.reduceMul, Int.reduceNe, Nat.reduceAdd, Nat.reduceMul, Nat.reduceSub, Int.reduceAdd, reduceCtorEq, Go.Den.wh, kK, wpd, wmb, wrb, *, zT]) | (with_reducible (first | apply z1 | apply z2 | apply z3 | apply z4) <;> intro hq <;> (try simp only [zH] at hq) <;> (try (exfalso; omega)))))
    · rw [if_neg (fun h => h1 h.2.1), Option.getD_none, Option.isSome_none]
      (repeat' (first | (simp -implicitDefEqProofs (maxSteps := 2000000) (disch := first | with_reducible assumption | omega | (simp only [zS, zA, Nat.reduceEqDiff, Nat.reduceLT, Nat.reduceLeDiff, Nat.reduceAdd, Nat.reduceSub, reduceCtorEq, wif, zD] <;> omega) | fail) only [zS, argl, insA, Go.Den.wm, wo, wu, looks, wfb, web, idOf, riA, Nat.reduceLeDiff, Nat.reduceLT, Nat.reduceEqDiff, Nat.reduceDiv, Nat.reduceMod, Int.reduceLT, Int.reduceLE, Int.reduceEq, Int.reduceNeg, Int.reduceToNat, Int.reduceSub, Int.reduceMul, Int.reduceNe, Nat.reduceAdd, Nat.reduceMul, Nat.reduceSub, Int.reduceAdd, reduceCtorEq, Go.Den.wh, kK, wpd, wmb, wrb, *, zT]) | (with_reducible (first | apply z1 | apply z2 | apply z3 | apply z4) <;> intro hq <;> (try simp only [zH] at hq) <;> (try (exfalso; omega)))))
end
end Go.Proofs.Ytdbhfmdndiphcaa
namespace Go.Proofs.Ytdbhfmdndiphcaa
set_option linter.unusedVariables false
set_option linter.unusedSimpArgs false
open Go.Den
noncomputable section
theorem best_mem : ∀ (l : List St) (b : Option St) (x : St), wiq l b = some x → x ∈ l ∨ b = some x := by
  intro l
  induction l with
  | nil => intro b x h; exact .inr h
  | cons y l ih =>
    intro b x h
    cases b with
    | none =>
      rw [wiq] at h
      rcases ih _ _ h with h | h
      · exact .inl (List.mem_cons_of_mem _ h)
      · cases h; exact .inl (List.mem_cons_self ..)
    | some b =>
      rw [wiq] at h
      rcases ih _ _ h with h | h
      · exact .inl (List.mem_cons_of_mem _ h)
      · split at h
        · cases h; exact .inl (List.mem_cons_self ..)
        · exact .inr h
theorem welb {r : Rx} {s : List UInt8} {m : Mt} : ∀ (k : Nat) (a : Int), wsk r s k a = some m → ∃ b : St, ∃ a2 : Int, a ≤ a2 ∧ a2 < a + k ∧ wiq (wvm r s true a2) none = some b ∧ m = (b.2.put 0 a2).put 1 b.1 := by
  intro k
  induction k with
  | zero => intro a h; cases h
  | succ k ih =>
    intro a h
    rw [wsk] at h
    cases hb : wiq (wvm r s true a) none with
    | some b =>
      rw [hb] at h
      cases h
      exact ⟨b, a, Int.le_refl _, by omega, hb, rfl⟩
    | none =>
      rw [hb] at h
      obtain ⟨b, a2, h1, h2, h3, h4⟩ := ih (a + 1) h
      exact ⟨b, a2, by omega, by omega, h3, h4⟩
theorem mt_at0 {m : Mt} {x y : Int} : ((m.put 0 x).put 1 y).at 0 = x := by rw [Mt.at_put, if_neg (by omega), Mt.at_put, if_pos ⟨rfl, by omega⟩]
theorem mt_at1 {m : Mt} {x y : Int} : ((m.put 0 x).put 1 y).at 1 = y := by rw [Mt.at_put, if_pos ⟨rfl, by omega⟩]
theorem wogb {r : Rx} {s : List UInt8} {a : Int} {m : Mt} (h : wcj r s a = some m) : 0 ≤ a ∧ a ≤ m.at 0 ∧ m.at 0 ≤ m.at 1 ∧ m.at 1 ≤ s.length := by
  unfold wcj at h
  split at h
  · rename_i hq
    obtain ⟨b, a2, h1, h2, h3, h4⟩ := welb _ _ h
    subst h4
    rw [mt_at0, mt_at1]
    rcases best_mem _ _ _ h3 with hb | hb
    · have := (wmz (r := r) (s := s) (bol := true) (a := a2)).good b hb
      exact ⟨hq.2.1, h1, this.2, this.1.hi⟩
    · cases hb
  · cases h
theorem wflb (r : Rx) (hn : wed r ≤ 1000000) (s : List UInt8) (hs : s.length ≤ 12) : lim Try.prog cfg (.call 36 [.agg ⟨rxC r⟩, str s]) (HP []) = some (.val (.bool (wcj r s 0).isSome), HP []) := by
  have h := wqcb r hn s hs 0
  generalize (wcj r s 0).getD waj = m at h
  generalize (wcj r s 0).isSome = b at h ⊢
  refine wjc hc wpx (Nat.le_of_ble_eq_true rfl) (Nat.le_of_ble_eq_true rfl) ?_
  unfold wew
  (repeat' (first | (simp -implicitDefEqProofs (maxSteps := 2000000) (disch := first | with_reducible assumption | omega | (simp only [zS, zA, Nat.reduceEqDiff, Nat.reduceLT, Nat.reduceLeDiff, Nat.reduceAdd, Nat.reduceSub, reduceCtorEq, zD] <;> omega) | fail) only [zS, argl, insA, Go.Den.wm, wo, wu, looks, wfb, web, idOf, riA, Nat.reduceLeDiff, Nat.reduceLT, Nat.reduceEqDiff, Nat.reduceDiv, Nat.reduceMod, Int.reduceLT, Int.reduceLE, Int.reduceEq, Int.reduceNeg, Int.reduceToNat, Int.reduceSub, Int.reduceMul, Int.reduceNe, Nat.reduceAdd, Nat.reduceMul, Nat.reduceSub, Int.reduceAdd, reduceCtorEq, Go.Den.wh, kK, *, zT]) | (with_reducible (first | apply z1 | apply z2 | apply z3 | apply z4) <;> intro hq <;> (try simp only [zH] at hq) <;> (try (exfalso; omega)))))
def alF (r : Rx) (s : List UInt8) : Nat → Int → Int → List Mt → Bool × List Mt
  | 0, _, _, out => (true, out)
  | k + 1, a, last, out => if a ≤ s.length then (match wcj r s a with
    | none => (false, out)
    | some m => if m.at 0 = m.at 1 then (if m.at 1 = last then alF r s k (m.at 1 + 1) last out else alF r s k (m.at 1 + 1) (m.at 1) (out ++ [m])) else alF r s k (m.at 1) (m.at 1) (out ++ [m])) else (true, out)
def alV (l : List Mt) : Value := if l = [] then .slice none 0 0 else FO 0 l.length (mtsC l)
def alH (l : List Mt) : List ABlk := if l = [] then [] else [.tok l.length 55 8]
def alO (p : Bool × List Mt) : Option (Out × AH) := if p.1 = true then some (.code (.exit 0) (SE (EJ 47 G0) [(5, alV p.2), (4, JK)]), HP (alH p.2)) else some (.code .ret (SE (EJ 47 G0) [(5, alV p.2), (4, alV p.2)]), HP (alH p.2))
theorem ej47 : (EJ 47 G0).get 4 = JK := rfl
theorem wpgb {r : Rx} {s : List UInt8} : ∀ (k : Nat) (a last : Int) (out : List Mt), out ≠ [] → (alF r s k a last out).2 ≠ [] := by
  intro k
  induction k with
  | zero => intro a l out h; exact h
  | succ k ih =>
    intro a l out h
    rw [alF]
    split
    · split
      · exact h
      · split
        · split
          · exact ih _ _ _ h
          · exact ih _ _ _ (by simp)
        · exact ih _ _ _ (by simp)
    · exact h
theorem wpp {p : Bool × List Mt} (h : p.2 ≠ []) : alO p = some (.code (if p.1 = true then .exit 0 else .ret) (SE (EJ 47 G0) [(5, FO 0 p.2.length (mtsC p.2)), (4, if p.1 = true then JK else FO 0 p.2.length (mtsC p.2))]), HP [.tok p.2.length 55 8]) := by
  unfold alO alV alH
  rw [if_neg h, if_neg h]
  split <;> rfl
theorem wmnb {l : List Mt} {m : Mt} : mtsC (l ++ [m]) = mtsC l ++ mtC m := by rw [wukb, mts_app]
set_option maxHeartbeats 4000000 in
theorem wqgb (r : Rx) (hn : wed r ≤ 1000000) (s : List UInt8) (hs : s.length ≤ 12) : ∀ (k : Nat) (a last : Int) (out : List Mt), 0 ≤ a → a ≤ s.length + 1 → s.length + 1 ≤ a + k → out ≠ [] → (out.length : Int) ≤ a →
    lim Try.prog cfg (.loop 27 0 (wck 0) (SE (EJ 47 G0) [(7, .int .i64 a), (6, .int .i64 last), (5, FO 1 out.length (mtsC out)), (2, .pointer (some ⟨0, 0, none⟩)), (1, str s)])) (HP [X (rxC r) 47 0 true, .tok out.length 55 8]) = alO (alF r s k a last out) := by
  intro k
  induction k with
  | zero =>
    intro a last out h0 h1 h2 ho hl
    rw [alF, wpp ho, if_pos rfl, if_pos rfl]
    refine ww wtb ?_
    unfold wec
    (repeat' (first | (simp -implicitDefEqProofs (maxSteps := 2000000) (disch := first | with_reducible assumption | omega | (simp only [zS, zA, Nat.reduceEqDiff, Nat.reduceLT, Nat.reduceLeDiff, Nat.reduceAdd, Nat.reduceSub, reduceCtorEq, wbb, wib, zD] <;> omega) | fail) only [zS, argl, insA, Go.Den.wm, wo, wu, looks, wfb, web, idOf, riA, Nat.reduceLeDiff, Nat.reduceLT, Nat.reduceEqDiff, Nat.reduceDiv, Nat.reduceMod, Int.reduceLT, Int.reduceLE, Int.reduceEq, Int.reduceNeg, Int.reduceToNat, Int.reduceSub, Int.reduceMul, Int.reduceNe, Nat.reduceAdd, Nat.reduceMul, Nat.reduceSub, Int.reduceAdd, reduceCtorEq, Go.Den.wh, kK, wxb, wbb, wib, ej47, *, zT]) | (with_reducible (first | apply z1 | apply z2 | apply z3 | apply z4) <;> intro hq <;> (try simp only [zH] at hq) <;> (try (exfalso; omega)))))
  | succ k ih =>
    intro a last out h0 h1 h2 ho hl
    rw [alF]
    by_cases ha : a ≤ s.length
    · rw [if_pos ha]
      have hf := wqcb r hn s hs a
      cases hm : wcj r s a with
      | none =>
        rw [hm, Option.getD_none, Option.isSome_none] at hf
        show _ = alO (false, out)
        rw [wpp ho, if_neg (by simp), if_neg (by simp)]
        clear ih hm
        refine ww wtb ?_
        unfold wec
        (repeat' (first | (simp -implicitDefEqProofs (maxSteps := 2000000) (disch := first | with_reducible assumption | omega | (simp only [zS, zA, Nat.reduceEqDiff, Nat.reduceLT, Nat.reduceLeDiff, Nat.reduceAdd, Nat.reduceSub, reduceCtorEq, wbb, wib, zD] <;> omega) | fail) only [zS, argl, insA, Go.Den.wm, wo, wu, looks, wfb, web, idOf, riA, Nat.reduceLeDiff, Nat.reduceLT, Nat.reduceEqDiff, Nat.reduceDiv, Nat.reduceMod, Int.reduceLT, Int.reduceLE, Int.reduceEq, Int.reduceNeg, Int.reduceToNat, Int.reduceSub, Int.reduceMul, Int.reduceNe, Nat.reduceAdd, Nat.reduceMul, Nat.reduceSub, Int.reduceAdd, reduceCtorEq, Go.Den.wh, kK, wxb, wbb, wib, ej47, *, zT]) | (with_reducible (first | apply z1 | apply z2 | apply z3 | apply z4) <;> intro hq <;> (try simp only [zH] at hq) <;> (try (exfalso; omega)))))
      | some m =>
        rw [hm, Option.getD_some, Option.isSome_some] at hf
        have hr := wogb hm
        clear hm
        show _ = alO (if m.at 0 = m.at 1 then (if m.at 1 = last then alF r s k (m.at 1 + 1) last out else alF r s k (m.at 1 + 1) (m.at 1) (out ++ [m])) else alF r s k (m.at 1) (m.at 1) (out ++ [m]))
        by_cases hq : m.at 0 = m.at 1
        · rw [if_pos hq]
          by_cases hl2 : m.at 1 = last
          · rw [if_pos hl2]
            have h := ih (m.at 1 + 1) last out (by omega) (by omega) (by omega) ho (by omega)
            have hne := wpgb (r := r) (s := s) k (m.at 1 + 1) last out ho
            generalize alF r s k (m.at 1 + 1) last out = p at h hne ⊢
            obtain ⟨b, l⟩ := p
            rw [wpp hne] at h ⊢
            rw [hl2] at h
            clear ih
            cases b with
            | true =>
              rw [if_pos rfl, if_pos rfl] at h ⊢
              refine ww wtb ?_
              unfold wec
              (repeat' (first | (simp -implicitDefEqProofs (maxSteps := 2000000) (disch := first | with_reducible assumption | omega | (simp only [zS, zA, Nat.reduceEqDiff, Nat.reduceLT, Nat.reduceLeDiff, Nat.reduceAdd, Nat.reduceSub, reduceCtorEq, wbb, wib, wqe, wif, zD] <;> omega) | fail) only [zS, argl, insA, Go.Den.wm, wo, wu, looks, wfb, web, idOf, riA, Nat.reduceLeDiff, Nat.reduceLT, Nat.reduceEqDiff, Nat.reduceDiv, Nat.reduceMod, Int.reduceLT, Int.reduceLE, Int.reduceEq, Int.reduceNeg, Int.reduceToNat, Int.reduceSub, Int.reduceMul, Int.reduceNe, Nat.reduceAdd, Nat.reduceMul, Nat.reduceSub, Int.reduceAdd, reduceCtorEq, Go.Den.wh, kK, wxb, wbb, wib, ej47, *, zT]) | (with_reducible (first | apply z1 | apply z2 | apply z3 | apply z4) <;> intro hq <;> (try simp only [zH] at hq) <;> (try (exfalso; omega)))))
            | false =>
              rw [if_neg (by simp), if_neg (by simp)] at h ⊢
              refine ww wtb ?_
              unfold wec
              (repeat' (first | (simp -implicitDefEqProofs (maxSteps := 2000000) (disch := first | with_reducible assumption | omega | (simp only [zS, zA, Nat.reduceEqDiff, Nat.reduceLT, Nat.reduceLeDiff, Nat.reduceAdd, Nat.reduceSub, reduceCtorEq, wbb, wib, wqe, wif, zD] <;> omega) | fail) only [zS, argl, insA, Go.Den.wm, wo, wu, looks, wfb, web, idOf, riA, Nat.reduceLeDiff, Nat.reduceLT, Nat.reduceEqDiff, Nat.reduceDiv, Nat.reduceMod, Int.reduceLT, Int.reduceLE, Int.reduceEq, Int.reduceNeg, Int.reduceToNat, Int.reduceSub, Int.reduceMul, Int.reduceNe, Nat.reduceAdd, Nat.reduceMul, Nat.reduceSub, Int.reduceAdd, reduceCtorEq, Go.Den.wh, kK, wxb, wbb, wib, ej47, *, zT]) | (with_reducible (first | apply z1 | apply z2 | apply z3 | apply z4) <;> intro hq <;> (try simp only [zH] at hq) <;> (try (exfalso; omega)))))
          · rw [if_neg hl2]
            have h := ih (m.at 1 + 1) (m.at 1) (out ++ [m]) (by omega) (by omega) (by omega) (by simp) (by simp; omega)
            have hne := wpgb (r := r) (s := s) k (m.at 1 + 1) (m.at 1) (out ++ [m]) (by simp)
            generalize alF r s k (m.at 1 + 1) (m.at 1) (out ++ [m]) = p at h hne ⊢
            obtain ⟨b, l⟩ := p
            rw [wpp hne] at h ⊢
            clear ih
            rw [show (out ++ [m]).length = out.length + 1 by simp, wmnb] at h
            cases b with
            | true =>
              rw [if_pos rfl, if_pos rfl] at h ⊢
              refine ww wtb ?_
              unfold wec
              (repeat' (first | (simp -implicitDefEqProofs (maxSteps := 2000000) (disch := first | with_reducible assumption | omega | (simp only [zS, zA, Nat.reduceEqDiff, Nat.reduceLT, Nat.reduceLeDiff, Nat.reduceAdd, Nat.reduceSub, reduceCtorEq, wbb, wib, wqe, wif, zD] <;> omega) | fail) only [zS, argl, insA, Go.Den.wm, wo, wu, looks, wfb, web, idOf, riA, Nat.reduceLeDiff, Nat.reduceLT, Nat.reduceEqDiff, Nat.reduceDiv, Nat.reduceMod, Int.reduceLT, Int.reduceLE, Int.reduceEq, Int.reduceNeg, Int.reduceToNat, Int.reduceSub, Int.reduceMul, Int.reduceNe, Nat.reduceAdd, Nat.reduceMul, Nat.reduceSub, Int.reduceAdd, reduceCtorEq, Go.Den.wh, kK, wxb, wbb, wib, ej47, *, zT]) | (with_reducible (first | apply z1 | apply z2 | apply z3 | apply z4) <;> intro hq <;> (try simp only [zH] at hq) <;> (try (exfalso; omega)))))
            | false =>
              rw [if_neg (by simp), if_neg (by simp)] at h ⊢
              refine ww wtb ?_
              unfold wec
              (repeat' (first | (simp -implicitDefEqProofs (maxSteps := 2000000) (disch := first | with_reducible assumption | omega | (simp only [zS, zA, Nat.reduceEqDiff, Nat.reduceLT, Nat.reduceLeDiff, Nat.reduceAdd, Nat.reduceSub, reduceCtorEq, wbb, wib, wqe, wif, zD] <;> omega) | fail) only [zS, argl, insA, Go.Den.wm, wo, wu, looks, wfb, web, idOf, riA, Nat.reduceLeDiff, Nat.reduceLT, Nat.reduceEqDiff, Nat.reduceDiv, Nat.reduceMod, Int.reduceLT, Int.reduceLE, Int.reduceEq, Int.reduceNeg, Int.reduceToNat, Int.reduceSub, Int.reduceMul, Int.reduceNe, Nat.reduceAdd, Nat.reduceMul, Nat.reduceSub, Int.reduceAdd, reduceCtorEq, Go.Den.wh, kK, wxb, wbb, wib, ej47, *, zT]) | (with_reducible (first | apply z1 | apply z2 | apply z3 | apply z4) <;> intro hq <;> (try simp only [zH] at hq) <;> (try (exfalso; omega)))))
        · rw [if_neg hq]
          have h := ih (m.at 1) (m.at 1) (out ++ [m]) (by omega) (by omega) (by omega) (by simp) (by simp; omega)
          have hne := wpgb (r := r) (s := s) k (m.at 1) (m.at 1) (out ++ [m]) (by simp)
          generalize alF r s k (m.at 1) (m.at 1) (out ++ [m]) = p at h hne ⊢
          obtain ⟨b, l⟩ := p
          rw [wpp hne] at h ⊢
          clear ih
          rw [show (out ++ [m]).length = out.length + 1 by simp, wmnb] at h
          cases b with
          | true =>
            rw [if_pos rfl, if_pos rfl] at h ⊢
            refine ww wtb ?_
            unfold wec
            (repeat' (first | (simp -implicitDefEqProofs (maxSteps := 2000000) (disch := first | with_reducible assumption | omega | (simp only [zS, zA, Nat.reduceEqDiff, Nat.reduceLT, Nat.reduceLeDiff, Nat.reduceAdd, Nat.reduceSub, reduceCtorEq, wbb, wib, wqe, wif, zD] <;> omega) | fail) only [zS, argl, insA, Go.Den.wm, wo, wu, looks, wfb, web, idOf, riA, Nat.reduceLeDiff, Nat.reduceLT, Nat.reduceEqDiff, Nat.reduceDiv, Nat.reduceMod, Int.reduceLT, Int.reduceLE, Int.reduceEq, Int.reduceNeg, Int.reduceToNat, Int.reduceSub, Int.reduceMul, Int.reduceNe, Nat.reduceAdd, Nat.reduceMul, Nat.reduceSub, Int.reduceAdd, reduceCtorEq, Go.Den.wh, kK, wxb, wbb, wib, ej47, *, zT]) | (with_reducible (first | apply z1 | apply z2 | apply z3 | apply z4) <;> intro hq <;> (try simp only [zH] at hq) <;> (try (exfalso; omega)))))
          | false =>
            rw [if_neg (by simp), if_neg (by simp)] at h ⊢
            refine ww wtb ?_
            unfold wec
            (repeat' (first | (simp -implicitDefEqProofs (maxSteps := 2000000) (disch := first | with_reducible assumption | omega | (simp only [zS, zA, Nat.reduceEqDiff, Nat.reduceLT, Nat.reduceLeDiff, Nat.reduceAdd, Nat.reduceSub, reduceCtorEq, wbb, wib, wqe, wif, zD] <;> omega) | fail) only [zS, argl, insA, Go.Den.wm, wo, wu, looks, wfb, web, idOf, riA, Nat.reduceLeDiff, Nat.reduceLT, Nat.reduceEqDiff, Nat.reduceDiv, Nat.reduceMod, Int.reduceLT, Int.reduceLE, Int.reduceEq, Int.reduceNeg, Int.reduceToNat, Int.reduceSub, Int.reduceMul, Int.reduceNe, Nat.reduceAdd, Nat.reduceMul, Nat.reduceSub, Int.reduceAdd, reduceCtorEq, Go.Den.wh, kK, wxb, wbb, wib, ej47, *, zT]) | (with_reducible (first | apply z1 | apply z2 | apply z3 | apply z4) <;> intro hq <;> (try simp only [zH] at hq) <;> (try (exfalso; omega)))))
    · rw [if_neg ha]
      show _ = alO (true, out)
      rw [wpp ho, if_pos rfl, if_pos rfl]
      clear ih
      refine ww wtb ?_
      unfold wec
      (repeat' (first | (simp -implicitDefEqProofs (maxSteps := 2000000) (disch := first | with_reducible assumption | omega | (simp only [zS, zA, Nat.reduceEqDiff, Nat.reduceLT, Nat.reduceLeDiff, Nat.reduceAdd, Nat.reduceSub, reduceCtorEq, wbb, wib, zD] <;> omega) | fail) only [zS, argl, insA, Go.Den.wm, wo, wu, looks, wfb, web, idOf, riA, Nat.reduceLeDiff, Nat.reduceLT, Nat.reduceEqDiff, Nat.reduceDiv, Nat.reduceMod, Int.reduceLT, Int.reduceLE, Int.reduceEq, Int.reduceNeg, Int.reduceToNat, Int.reduceSub, Int.reduceMul, Int.reduceNe, Nat.reduceAdd, Nat.reduceMul, Nat.reduceSub, Int.reduceAdd, reduceCtorEq, Go.Den.wh, kK, wxb, wbb, wib, ej47, *, zT]) | (with_reducible (first | apply z1 | apply z2 | apply z3 | apply z4) <;> intro hq <;> (try simp only [zH] at hq) <;> (try (exfalso; omega)))))
theorem www {b : Bool} : alO (b, []) = some (.code (if b = true then .exit 0 else .ret) (SE (EJ 47 G0) [(5, .slice none 0 0), (4, if b = true then JK else .slice none 0 0)]), HP []) := by
  unfold alO alV alH
  rw [if_pos rfl, if_pos rfl]
  cases b <;> rfl
set_option maxHeartbeats 4000000 in
theorem wcdc (r : Rx) (hn : wed r ≤ 1000000) (s : List UInt8) (hs : s.length ≤ 12) : ∀ (k : Nat) (a last : Int), 0 ≤ a → a ≤ s.length + 1 → s.length + 1 ≤ a + k →
    lim Try.prog cfg (.loop 27 0 (wck 0) (SE (EJ 47 G0) [(7, .int .i64 a), (6, .int .i64 last), (5, .slice none 0 0), (2, .pointer (some ⟨0, 0, none⟩)), (1, str s)])) (HP [X (rxC r) 47 0 true]) = alO (alF r s k a last []) := by
  intro k
  induction k with
  | zero =>
    intro a last h0 h1 h2
    rw [alF, www, if_pos rfl, if_pos rfl]
    refine ww wtb ?_
    unfold wec
    (repeat' (first | (simp -implicitDefEqProofs (maxSteps := 2000000) (disch := first | with_reducible assumption | omega | (simp only [zS, zA, Nat.reduceEqDiff, Nat.reduceLT, Nat.reduceLeDiff, Nat.reduceAdd, Nat.reduceSub, reduceCtorEq, wbb, wib, zD] <;> omega) | fail) only [zS, argl, insA, Go.Den.wm, wo, wu, looks, wfb, web, idOf, riA, Nat.reduceLeDiff, Nat.reduceLT, Nat.reduceEqDiff, Nat.reduceDiv, Nat.reduceMod, Int.reduceLT, Int.reduceLE, Int.reduceEq, Int.reduceNeg, Int.reduceToNat, Int.reduceSub, Int.reduceMul, Int.reduceNe, Nat.reduceAdd, Nat.reduceMul, Nat.reduceSub, Int.reduceAdd, reduceCtorEq, Go.Den.wh, kK, wxb, wbb, wib, ej47, *, zT]) | (with_reducible (first | apply z1 | apply z2 | apply z3 | apply z4) <;> intro hq <;> (try simp only [zH] at hq) <;> (try (exfalso; omega)))))
  | succ k ih =>
    intro a last h0 h1 h2
    rw [alF]
    by_cases ha : a ≤ s.length
    · rw [if_pos ha]
      have hf := wqcb r hn s hs a
      cases hm : wcj r s a with
      | none =>
        rw [hm, Option.getD_none, Option.isSome_none] at hf
        show _ = alO (false, [])
        rw [www, if_neg (by simp), if_neg (by simp)]
        clear ih hm
        refine ww wtb ?_
        unfold wec
        (repeat' (first | (simp -implicitDefEqProofs (maxSteps := 2000000) (disch := first | with_reducible assumption | omega | (simp only [zS, zA, Nat.reduceEqDiff, Nat.reduceLT, Nat.reduceLeDiff, Nat.reduceAdd, Nat.reduceSub, reduceCtorEq, wbb, wib, zD] <;> omega) | fail) only [zS, argl, insA, Go.Den.wm, wo, wu, looks, wfb, web, idOf, riA, Nat.reduceLeDiff, Nat.reduceLT, Nat.reduceEqDiff, Nat.reduceDiv, Nat.reduceMod, Int.reduceLT, Int.reduceLE, Int.reduceEq, Int.reduceNeg, Int.reduceToNat, Int.reduceSub, Int.reduceMul, Int.reduceNe, Nat.reduceAdd, Nat.reduceMul, Nat.reduceSub, Int.reduceAdd, reduceCtorEq, Go.Den.wh, kK, wxb, wbb, wib, ej47, *, zT]) | (with_reducible (first | apply z1 | apply z2 | apply z3 | apply z4) <;> intro hq <;> (try simp only [zH] at hq) <;> (try (exfalso; omega)))))
      | some m =>
        rw [hm, Option.getD_some, Option.isSome_some] at hf
        have hr := wogb hm
        clear hm
        show _ = alO (if m.at 0 = m.at 1 then (if m.at 1 = last then alF r s k (m.at 1 + 1) last [] else alF r s k (m.at 1 + 1) (m.at 1) ([] ++ [m])) else alF r s k (m.at 1) (m.at 1) ([] ++ [m]))
        rw [List.nil_append]
        by_cases hq : m.at 0 = m.at 1
        · rw [if_pos hq]
          by_cases hl2 : m.at 1 = last
          · rw [if_pos hl2]
            have h := ih (m.at 1 + 1) last (by omega) (by omega) (by omega)
            generalize alF r s k (m.at 1 + 1) last [] = p at h ⊢
            obtain ⟨b, l⟩ := p
            rw [hl2] at h
            clear ih
            by_cases hne : l = []
            · subst hne
              rw [www] at h ⊢
              cases b with
              | true =>
                rw [if_pos rfl, if_pos rfl] at h ⊢
                refine ww wtb ?_
                unfold wec
                (repeat' (first | (simp -implicitDefEqProofs (maxSteps := 2000000) (disch := first | with_reducible assumption | omega | (simp only [zS, zA, Nat.reduceEqDiff, Nat.reduceLT, Nat.reduceLeDiff, Nat.reduceAdd, Nat.reduceSub, reduceCtorEq, wbb, wib, wqe, wif, zD] <;> omega) | fail) only [zS, argl, insA, Go.Den.wm, wo, wu, looks, wfb, web, idOf, riA, Nat.reduceLeDiff, Nat.reduceLT, Nat.reduceEqDiff, Nat.reduceDiv, Nat.reduceMod, Int.reduceLT, Int.reduceLE, Int.reduceEq, Int.reduceNeg, Int.reduceToNat, Int.reduceSub, Int.reduceMul, Int.reduceNe, Nat.reduceAdd, Nat.reduceMul, Nat.reduceSub, Int.reduceAdd, reduceCtorEq, Go.Den.wh, kK, wxb, wbb, wib, ej47, *, zT]) | (with_reducible (first | apply z1 | apply z2 | apply z3 | apply z4) <;> intro hq <;> (try simp only [zH] at hq) <;> (try (exfalso; omega)))))
              | false =>
                rw [if_neg (by simp), if_neg (by simp)] at h ⊢
                refine ww wtb ?_
                unfold wec
                (repeat' (first | (simp -implicitDefEqProofs (maxSteps := 2000000) (disch := first | with_reducible assumption | omega | (simp only [zS, zA, Nat.reduceEqDiff, Nat.reduceLT, Nat.reduceLeDiff, Nat.reduceAdd, Nat.reduceSub, reduceCtorEq, wbb, wib, wqe, wif, zD] <;> omega) | fail) only [zS, argl, insA, Go.Den.wm, wo, wu, looks, wfb, web, idOf, riA, Nat.reduceLeDiff, Nat.reduceLT, Nat.reduceEqDiff, Nat.reduceDiv, Nat.reduceMod, Int.reduceLT, Int.reduceLE, Int.reduceEq, Int.reduceNeg, Int.reduceToNat, Int.reduceSub, Int.reduceMul, Int.reduceNe, Nat.reduceAdd, Nat.reduceMul, Nat.reduceSub, Int.reduceAdd, reduceCtorEq, Go.Den.wh, kK, wxb, wbb, wib, ej47, *, zT]) | (with_reducible (first | apply z1 | apply z2 | apply z3 | apply z4) <;> intro hq <;> (try simp only [zH] at hq) <;> (try (exfalso; omega)))))
            · rw [wpp hne] at h ⊢
              cases b with
              | true =>
                rw [if_pos rfl, if_pos rfl] at h ⊢
                refine ww wtb ?_
                unfold wec
                (repeat' (first | (simp -implicitDefEqProofs (maxSteps := 2000000) (disch := first | with_reducible assumption | omega | (simp only [zS, zA, Nat.reduceEqDiff, Nat.reduceLT, Nat.reduceLeDiff, Nat.reduceAdd, Nat.reduceSub, reduceCtorEq, wbb, wib, wqe, wif, zD] <;> omega) | fail) only [zS, argl, insA, Go.Den.wm, wo, wu, looks, wfb, web, idOf, riA, Nat.reduceLeDiff, Nat.reduceLT, Nat.reduceEqDiff, Nat.reduceDiv, Nat.reduceMod, Int.reduceLT, Int.reduceLE, Int.reduceEq, Int.reduceNeg, Int.reduceToNat, Int.reduceSub, Int.reduceMul, Int.reduceNe, Nat.reduceAdd, Nat.reduceMul, Nat.reduceSub, Int.reduceAdd, reduceCtorEq, Go.Den.wh, kK, wxb, wbb, wib, ej47, *, zT]) | (with_reducible (first | apply z1 | apply z2 | apply z3 | apply z4) <;> intro hq <;> (try simp only [zH] at hq) <;> (try (exfalso; omega)))))
              | false =>
                rw [if_neg (by simp), if_neg (by simp)] at h ⊢
                refine ww wtb ?_
                unfold wec
                (repeat' (first | (simp -implicitDefEqProofs (maxSteps := 2000000) (disch := first | with_reducible assumption | omega | (simp only [zS, zA, Nat.reduceEqDiff, Nat.reduceLT, Nat.reduceLeDiff, Nat.reduceAdd, Nat.reduceSub, reduceCtorEq, wbb, wib, wqe, wif, zD] <;> omega) | fail) only [zS, argl, insA, Go.Den.wm, wo, wu, looks, wfb, web, idOf, riA, Nat.reduceLeDiff, Nat.reduceLT, Nat.reduceEqDiff, Nat.reduceDiv, Nat.reduceMod, Int.reduceLT, Int.reduceLE, Int.reduceEq, Int.reduceNeg, Int.reduceToNat, Int.reduceSub, Int.reduceMul, Int.reduceNe, Nat.reduceAdd, Nat.reduceMul, Nat.reduceSub, Int.reduceAdd, reduceCtorEq, Go.Den.wh, kK, wxb, wbb, wib, ej47, *, zT]) | (with_reducible (first | apply z1 | apply z2 | apply z3 | apply z4) <;> intro hq <;> (try simp only [zH] at hq) <;> (try (exfalso; omega)))))
          · rw [if_neg hl2]
            have h := wqgb r hn s hs k (m.at 1 + 1) (m.at 1) [m] (by omega) (by omega) (by omega) (by simp) (by simp; omega)
            have hne := wpgb (r := r) (s := s) k (m.at 1 + 1) (m.at 1) [m] (List.cons_ne_nil m [])
            generalize alF r s k (m.at 1 + 1) (m.at 1) [m] = p at h hne ⊢
            obtain ⟨b, l⟩ := p
            rw [wpp hne] at h ⊢
            clear ih
            rw [show [m].length = 1 from rfl, ← wukb] at h
            cases b with
            | true =>
              rw [if_pos rfl, if_pos rfl] at h ⊢
              refine ww wtb ?_
              unfold wec
              (repeat' (first | (simp -implicitDefEqProofs (maxSteps := 2000000) (disch := first | with_reducible assumption | omega | (simp only [zS, zA, Nat.reduceEqDiff, Nat.reduceLT, Nat.reduceLeDiff, Nat.reduceAdd, Nat.reduceSub, reduceCtorEq, wbb, wib, wqe, wif, zD] <;> omega) | fail) only [zS, argl, insA, Go.Den.wm, wo, wu, looks, wfb, web, idOf, riA, Nat.reduceLeDiff, Nat.reduceLT, Nat.reduceEqDiff, Nat.reduceDiv, Nat.reduceMod, Int.reduceLT, Int.reduceLE, Int.reduceEq, Int.reduceNeg, Int.reduceToNat, Int.reduceSub, Int.reduceMul, Int.reduceNe, Nat.reduceAdd, Nat.reduceMul, Nat.reduceSub, Int.reduceAdd, reduceCtorEq, Go.Den.wh, kK, wxb, wbb, wib, ej47, *, zT]) | (with_reducible (first | apply z1 | apply z2 | apply z3 | apply z4) <;> intro hq <;> (try simp only [zH] at hq) <;> (try (exfalso; omega)))))
            | false =>
              rw [if_neg (by simp), if_neg (by simp)] at h ⊢
              refine ww wtb ?_
              unfold wec
              (repeat' (first | (simp -implicitDefEqProofs (maxSteps := 2000000) (disch := first | with_reducible assumption | omega | (simp only [zS, zA, Nat.reduceEqDiff, Nat.reduceLT, Nat.reduceLeDiff, Nat.reduceAdd, Nat.reduceSub, reduceCtorEq, wbb, wib, wqe, wif, zD] <;> omega) | fail) only [zS, argl, insA, Go.Den.wm, wo, wu, looks, wfb, web, idOf, riA, Nat.reduceLeDiff, Nat.reduceLT, Nat.reduceEqDiff, Nat.reduceDiv, Nat.reduceMod, Int.reduceLT, Int.reduceLE, Int.reduceEq, Int.reduceNeg, Int.reduceToNat, Int.reduceSub, Int.reduceMul, Int.reduceNe, Nat.reduceAdd, Nat.reduceMul, Nat.reduceSub, Int.reduceAdd, reduceCtorEq, Go.Den.wh, kK, wxb, wbb, wib, ej47, *, zT]) | (with_reducible (first | apply z1 | apply z2 | apply z3 | apply z4) <;> intro hq <;> (try simp only [zH] at hq) <;> (try (exfalso; omega)))))
        · rw [if_neg hq]
          have h := wqgb r hn s hs k (m.at 1) (m.at 1) [m] (by omega) (by omega) (by omega) (by simp) (by simp; omega)
          have hne := wpgb (r := r) (s := s) k (m.at 1) (m.at 1) [m] (List.cons_ne_nil m [])
          generalize alF r s k (m.at 1) (m.at 1) [m] = p at h hne ⊢
          obtain ⟨b, l⟩ := p
          rw [wpp hne] at h ⊢
          clear ih
          rw [show [m].length = 1 from rfl, ← wukb] at h
          cases b with
          | true =>
            rw [if_pos rfl, if_pos rfl] at h ⊢
            refine ww wtb ?_
            unfold wec
            (repeat' (first | (simp -implicitDefEqProofs (maxSteps := 2000000) (disch := first | with_reducible assumption | omega | (simp only [zS, zA, Nat.reduceEqDiff, Nat.reduceLT, Nat.reduceLeDiff, Nat.reduceAdd, Nat.reduceSub, reduceCtorEq, wbb, wib, wqe, wif, zD] <;> omega) | fail) only [zS, argl, insA, Go.Den.wm, wo, wu, looks, wfb, web, idOf, riA, Nat.reduceLeDiff, Nat.reduceLT, Nat.reduceEqDiff, Nat.reduceDiv, Nat.reduceMod, Int.reduceLT, Int.reduceLE, Int.reduceEq, Int.reduceNeg, Int.reduceToNat, Int.reduceSub, Int.reduceMul, Int.reduceNe, Nat.reduceAdd, Nat.reduceMul, Nat.reduceSub, Int.reduceAdd, reduceCtorEq, Go.Den.wh, kK, wxb, wbb, wib, ej47, *, zT]) | (with_reducible (first | apply z1 | apply z2 | apply z3 | apply z4) <;> intro hq <;> (try simp only [zH] at hq) <;> (try (exfalso; omega)))))
          | false =>
            rw [if_neg (by simp), if_neg (by simp)] at h ⊢
            refine ww wtb ?_
            unfold wec
            (repeat' (first | (simp -implicitDefEqProofs (maxSteps := 2000000) (disch := first | with_reducible assumption | omega | (simp only [zS, zA, Nat.reduceEqDiff, Nat.reduceLT, Nat.reduceLeDiff, Nat.reduceAdd, Nat.reduceSub, reduceCtorEq, wbb, wib, wqe, wif, zD] <;> omega) | fail) only [zS, argl, insA, Go.Den.wm, wo, wu, looks, wfb, web, idOf, riA, Nat.reduceLeDiff, Nat.reduceLT, Nat.reduceEqDiff, Nat.reduceDiv, Nat.reduceMod, Int.reduceLT, Int.reduceLE, Int.reduceEq, Int.reduceNeg, Int.reduceToNat, Int.reduceSub, Int.reduceMul, Int.reduceNe, Nat.reduceAdd, Nat.reduceMul, Nat.reduceSub, Int.reduceAdd, reduceCtorEq, Go.Den.wh, kK, wxb, wbb, wib, ej47, *, zT]) | (with_reducible (first | apply z1 | apply z2 | apply z3 | apply z4) <;> intro hq <;> (try simp only [zH] at hq) <;> (try (exfalso; omega)))))
    · rw [if_neg ha]
      show _ = alO (true, [])
      rw [www, if_pos rfl, if_pos rfl]
      clear ih
      refine ww wtb ?_
      unfold wec
      (repeat' (first | (simp -implicitDefEqProofs (maxSteps := 2000000) (disch := first | with_reducible assumption | omega | (simp only [zS, zA, Nat.reduceEqDiff, Nat.reduceLT, Nat.reduceLeDiff, Nat.reduceAdd, Nat.reduceSub, reduceCtorEq, wbb, wib, zD] <;> omega) | fail) only [zS, argl, insA, Go.Den.wm, wo, wu, looks, wfb, web, idOf, riA, Nat.reduceLeDiff, Nat.reduceLT, Nat.reduceEqDiff, Nat.reduceDiv, Nat.reduceMod, Int.reduceLT, Int.reduceLE, Int.reduceEq, Int.reduceNeg, Int.reduceToNat, Int.reduceSub, Int.reduceMul, Int.reduceNe, Nat.reduceAdd, Nat.reduceMul, Nat.reduceSub, Int.reduceAdd, reduceCtorEq, Go.Den.wh, kK, wxb, wbb, wib, ej47, *, zT]) | (with_reducible (first | apply z1 | apply z2 | apply z3 | apply z4) <;> intro hq <;> (try simp only [zH] at hq) <;> (try (exfalso; omega)))))
def allR (r : Rx) (s : List UInt8) : List Mt := (alF r s (s.length + 1) 0 (-1) []).2
theorem wddc (r : Rx) (hn : wed r ≤ 1000000) (s : List UInt8) (hs : s.length ≤ 12) : lim Try.prog cfg (.call 27 [.agg ⟨rxC r⟩, str s]) (HP []) = some (.val (FL (allR r s).length (mtsC (allR r s))), HP []) := by
  have h := wcdc r hn s hs (s.length + 1) 0 (-1) (by omega) (by omega) (by omega)
  refine wjc hc wox (Nat.le_of_ble_eq_true rfl) (Nat.le_of_ble_eq_true rfl) ?_
  unfold wdw allR
  generalize alF r s (s.length + 1) 0 (-1) [] = p at h ⊢
  obtain ⟨b, l⟩ := p
  by_cases hne : l = []
  · subst hne
    rw [www] at h
    cases b with
    | true =>
      rw [if_pos rfl, if_pos rfl] at h
      (repeat' (first | (simp -implicitDefEqProofs (maxSteps := 2000000) (disch := first | with_reducible assumption | omega | (simp only [zS, zA, Nat.reduceEqDiff, Nat.reduceLT, Nat.reduceLeDiff, Nat.reduceAdd, Nat.reduceSub, reduceCtorEq, wbb, wib, wqe, wif, zD] <;> omega) | fail) only [zS, argl, insA, Go.Den.wm, wo, wu, looks, wfb, web, idOf, riA, Nat.reduceLeDiff, Nat.reduceLT, Nat.reduceEqDiff, Nat.reduceDiv, Nat.reduceMod, Int.reduceLT, Int.reduceLE, Int.reduceEq, Int.reduceNeg, Int.reduceToNat, Int.reduceSub, Int.reduceMul, Int.reduceNe, Nat.reduceAdd, Nat.reduceMul, Nat.reduceSub, Int.reduceAdd, reduceCtorEq, Go.Den.wh, kK, wxb, wbb, wib, ej47, *, zT]) | (with_reducible (first | apply z1 | apply z2 | apply z3 | apply z4) <;> intro hq <;> (try simp only [zH] at hq) <;> (try (exfalso; omega)))))
      all_goals rfl
    | false =>
      rw [if_neg (by simp), if_neg (by simp)] at h
      (repeat' (first | (simp -implicitDefEqProofs (maxSteps := 2000000) (disch := first | with_reducible assumption | omega | (simp only [zS, zA, Nat.reduceEqDiff, Nat.reduceLT, Nat.reduceLeDiff, Nat.reduceAdd, Nat.reduceSub, reduceCtorEq, wbb, wib, wqe, wif, zD] <;> omega) | fail) only [zS, argl, insA, Go.Den.wm, wo, wu, looks, wfb, web, idOf, riA, Nat.reduceLeDiff, Nat.reduceLT, Nat.reduceEqDiff, Nat.reduceDiv, Nat.reduceMod, Int.reduceLT, Int.reduceLE, Int.reduceEq, Int.reduceNeg, Int.reduceToNat, Int.reduceSub, Int.reduceMul, Int.reduceNe, Nat.reduceAdd, Nat.reduceMul, Nat.reduceSub, Int.reduceAdd, reduceCtorEq, Go.Den.wh, kK, wxb, wbb, wib, ej47, *, zT]) | (with_reducible (first | apply z1 | apply z2 | apply z3 | apply z4) <;> intro hq <;> (try simp only [zH] at hq) <;> (try (exfalso; omega)))))
      all_goals rfl
  · rw [wpp hne] at h
    cases b with
    | true =>
      rw [if_pos rfl, if_pos rfl] at h
      (repeat' (first | (simp -implicitDefEqProofs (maxSteps := 2000000) (disch := first | with_reducible assumption | omega | (simp only [zS, zA, Nat.reduceEqDiff, Nat.reduceLT, Nat.reduceLeDiff, Nat.reduceAdd, Nat.reduceSub, reduceCtorEq, wbb, wib, wqe, wif, zD] <;> omega) | fail) only [zS, argl, insA, Go.Den.wm, wo, wu, looks, wfb, web, idOf, riA, Nat.reduceLeDiff, Nat.reduceLT, Nat.reduceEqDiff, Nat.reduceDiv, Nat.reduceMod, Int.reduceLT, Int.reduceLE, Int.reduceEq, Int.reduceNeg, Int.reduceToNat, Int.reduceSub, Int.reduceMul, Int.reduceNe, Nat.reduceAdd, Nat.reduceMul, Nat.reduceSub, Int.reduceAdd, reduceCtorEq, Go.Den.wh, kK, wxb, wbb, wib, ej47, *, zT]) | (with_reducible (first | apply z1 | apply z2 | apply z3 | apply z4) <;> intro hq <;> (try simp only [zH] at hq) <;> (try (exfalso; omega)))))
      all_goals rfl
    | false =>
      rw [if_neg (by simp), if_neg (by simp)] at h
      (repeat' (first | (simp -implicitDefEqProofs (maxSteps := 2000000) (disch := first | with_reducible assumption | omega | (simp only [zS, zA, Nat.reduceEqDiff, Nat.reduceLT, Nat.reduceLeDiff, Nat.reduceAdd, Nat.reduceSub, reduceCtorEq, wbb, wib, wqe, wif, zD] <;> omega) | fail) only [zS, argl, insA, Go.Den.wm, wo, wu, looks, wfb, web, idOf, riA, Nat.reduceLeDiff, Nat.reduceLT, Nat.reduceEqDiff, Nat.reduceDiv, Nat.reduceMod, Int.reduceLT, Int.reduceLE, Int.reduceEq, Int.reduceNeg, Int.reduceToNat, Int.reduceSub, Int.reduceMul, Int.reduceNe, Nat.reduceAdd, Nat.reduceMul, Nat.reduceSub, Int.reduceAdd, reduceCtorEq, Go.Den.wh, kK, wxb, wbb, wib, ej47, *, zT]) | (with_reducible (first | apply z1 | apply z2 | apply z3 | apply z4) <;> intro hq <;> (try simp only [zH] at hq) <;> (try (exfalso; omega)))))
      all_goals rfl
end
end Go.Proofs.Ytdbhfmdndiphcaa
namespace Go.Proofs.Ytdbhfmdndiphcaa
open Go.Den
noncomputable section
def setR (b : UInt8) : Rx := .mk 1 0 0 0 (one b.toNat) []
def rxT (t : List UInt8) : Rx := if t.length = 1 then setR (t.getD 0 0) else .mk 2 0 0 0 0#256 (t.map setR)
def wdk (s t : List UInt8) (a : Nat) : Bool := decide (a + t.length ≤ s.length) && decide ((s.take (a + t.length)).drop a = t)
theorem one_ne {x : Nat} (h : x < 256) : one x ≠ 0#256 := by
  intro h0
  have := wpkb x x
  rw [h0] at this
  simp [h] at this
theorem one_has {x y : UInt8} : ((one x.toNat).getLsbD y.toNat = true) = (y = x) := by
  have hx := x.toNat_lt
  have hy := y.toNat_lt
  rw [wpkb, decide_eq_true (show y.toNat < 256 by omega), Bool.true_and, decide_eq_true_eq]
  apply propext
  constructor
  · intro h; exact UInt8.toNat_inj.1 h
  · intro h; rw [h]
theorem wrcb (b : UInt8) (d g : Int) : wxh (setR b) d g = (true, g) := by
  have hb : wclb (setR b) = true := rfl
  have hk : wao (setR b) = true := by
    show (decide ((0 : Int) = 0) && decide (one b.toNat ≠ 0#256)) = true
    rw [decide_eq_true (one_ne (by have := b.toNat_lt; omega))]; rfl
  unfold setR at *
  rw [wxh, if_pos hb, if_pos hk, if_neg (by decide), if_neg (by decide), wrf]
theorem wbo : ∀ (t : List UInt8), t.length ≤ 2 → wkl (rxT t) = true := by
  intro t ht
  match t, ht with
  | [], _ => rfl
  | [b], _ =>
    show wkl (setR b) = true
    rw [wkl, wrcb]
    rfl
  | [b, c], _ =>
    show wkl (.mk 2 0 0 0 0#256 [setR b, setR c]) = true
    have h1 : wclb (.mk 2 0 0 0 0#256 [setR b, setR c]) = true := rfl
    have h2 : wao (.mk 2 0 0 0 0#256 [setR b, setR c]) = true := rfl
    have h3 : wxh (.mk 2 0 0 0 0#256 [setR b, setR c]) 0 0 = (true, 0) := by
      rw [wxh, if_pos h1, if_pos h2, if_neg (by decide), if_neg (by decide), wrf, wrcb, if_pos rfl, wrf, wrcb, if_pos rfl, wrf]
    rw [wkl, h3]
    rfl
theorem wll : ∀ (t : List UInt8), t.length ≤ 2 → wed (rxT t) ≤ 1000000 := by
  intro t ht
  match t, ht with
  | [], _ => decide
  | [b], _ =>
    show wed (setR b) ≤ _
    rw [setR, wed, wyc]; omega
  | [b, c], _ =>
    show wed (.mk 2 0 0 0 0#256 [setR b, setR c]) ≤ _
    rw [wed, wyc, wyc, wyc, setR, setR, wed, wed, wyc]; omega
theorem wscb (s : List UInt8) (bol : Bool) (b : UInt8) (x : St) : wpf s bol (setR b) x = if x.1 < s.length ∧ s.getD x.1.toNat 0 = b then [(x.1 + 1, x.2)] else [] := by
  rw [setR, wpf, if_pos rfl]
  simp only [one_has]
theorem wxx (s : List UInt8) (a n : Nat) (h : a < s.length) : (s.take (a + (n + 1))).drop a = s.getD a 0 :: (s.take (a + 1 + n)).drop (a + 1) := by
  rw [show a + (n + 1) = a + 1 + n by omega, List.drop_eq_getElem_cons (show a < (s.take (a + 1 + n)).length by rw [List.length_take]; omega), List.getElem_take, List.getD_eq_getElem?_getD, List.getElem?_eq_getElem h]
  rfl
theorem wyo (s : List UInt8) (a : Nat) (h : a ≤ s.length) : wdk s [] a = true := by
  unfold wdk
  rw [decide_eq_true (by simpa using h), decide_eq_true (by simp)]; rfl
theorem wjq (s : List UInt8) (b : UInt8) (t : List UInt8) (a : Nat) : wdk s (b :: t) a = (decide (a < s.length ∧ s.getD a 0 = b) && wdk s t (a + 1)) := by
  unfold wdk
  rw [List.length_cons]
  by_cases h : a < s.length
  · rw [wxx s a t.length h, show a + 1 + t.length = a + (t.length + 1) by omega]
    by_cases h2 : s.getD a 0 = b
    · rw [decide_eq_true (show a < s.length ∧ s.getD a 0 = b from ⟨h, h2⟩), Bool.true_and, h2]
      congr 1
      simp
    · rw [decide_eq_false (fun hh : a < s.length ∧ s.getD a 0 = b => h2 hh.2), Bool.false_and]
      rw [decide_eq_false (fun hh => h2 (List.cons.inj hh).1), Bool.and_false]
  · rw [decide_eq_false (fun hh : a < s.length ∧ s.getD a 0 = b => h hh.1), Bool.false_and, decide_eq_false (by omega), Bool.false_and]
theorem ways_T (s : List UInt8) (t : List UInt8) (ht : t.length ≤ 2) (a : Nat) (ha : a ≤ s.length) : wvm (rxT t) s true a = if wdk s t a = true then [((a : Int) + t.length, waj)] else [] := by
  unfold wvm
  rw [if_pos ⟨wbo t ht, by omega, by omega⟩]
  match t, ht with
  | [], _ =>
    rw [wyo s a ha, if_pos rfl]
    show wpf s true (.mk 2 0 0 0 0#256 []) _ = _
    rw [wpf, catF]
    simp
  | [b], _ =>
    show wpf s true (setR b) _ = _
    rw [wscb, wjq]
    by_cases h : a < s.length ∧ s.getD a 0 = b
    · rw [decide_eq_true h, wyo s (a + 1) (by omega), if_pos ⟨by show (a : Int) < _; omega, h.2⟩]
      rfl
    · rw [decide_eq_false h, if_neg (fun hh => h ⟨by have h1 : (a : Int) < s.length := hh.1; omega, hh.2⟩)]
      rfl
  | [b, c], _ =>
    show wpf s true (.mk 2 0 0 0 0#256 [setR b, setR c]) _ = _
    have hw : wpf s true (.mk 2 0 0 0 0#256 [setR b, setR c]) ((a : Int), waj) = catF s true [setR b, setR c] [((a : Int), waj)] := by
      rw [wpf]; simp
    rw [hw, catF, catF, catF, wjq, wjq]
    have e1 : ∀ (w : St → List St) (x : St), (w x).length ≤ 1 → whcb w [x] = w x := by
      intro w x h
      show addF [] (w x) = w x
      match w x, h with
      | [], _ => rfl
      | [y], _ => rfl
    have e0 : ∀ (w : St → List St), whcb w [] = [] := fun _ => rfl
    have hl : ∀ (c : UInt8) (x : St), (wpf s true (setR c) x).length ≤ 1 := by
      intro c x
      rw [wscb]
      split <;> simp
    rw [e1 _ _ (hl b _)]
    simp only [wscb]
    by_cases h : a < s.length ∧ s.getD a 0 = b
    · rw [decide_eq_true h, if_pos ⟨by show (a : Int) < _; omega, h.2⟩]
      rw [e1 _ _ (by dsimp only; split <;> simp)]
      by_cases h2 : a + 1 < s.length ∧ s.getD (a + 1) 0 = c
      · rw [decide_eq_true h2, wyo s (a + 1 + 1) (by omega)]
        rw [if_pos ⟨by show (a : Int) + 1 < _; omega, by show s.getD ((a : Int) + 1).toNat 0 = c; rw [show ((a : Int) + 1).toNat = a + 1 by omega]; exact h2.2⟩]
        show [((a : Int) + 1 + 1, waj)] = [((a : Int) + 2, waj)]
        rw [Int.add_assoc]; rfl
      · rw [decide_eq_false h2, if_neg (fun hh => h2 ⟨by have h1 : (a : Int) + 1 < s.length := hh.1; omega, by have h1 : s.getD ((a : Int) + 1).toNat 0 = c := hh.2; rw [show ((a : Int) + 1).toNat = a + 1 by omega] at h1; exact h1⟩)]
        rfl
    · rw [decide_eq_false h, if_neg (fun hh => h ⟨by have h1 : (a : Int) < s.length := hh.1; omega, hh.2⟩), e0]
      rfl
def wic (s t : List UInt8) : Nat → Nat → List Nat
  | 0, _ => []
  | k + 1, i => if i + t.length ≤ s.length then (if wdk s t i = true then i :: wic s t k (i + t.length) else wic s t k (i + 1)) else []
theorem wni (s t : List UInt8) : ∀ (k i : Nat), ¬ i + t.length ≤ s.length → wic s t k i = [] := by
  intro k i h
  cases k with
  | zero => rfl
  | succ k => rw [wic, if_neg h]
theorem wxw (s t : List UInt8) (h0 : 0 < t.length) : ∀ (k k2 i : Nat), s.length + 1 ≤ i + k → s.length + 1 ≤ i + k2 → wic s t k i = wic s t k2 i := by
  intro k
  induction k with
  | zero => intro k2 i h1 h2; rw [wni s t 0 i (by omega), wni s t k2 i (by omega)]
  | succ k ih =>
    intro k2 i h1 h2
    cases k2 with
    | zero => rw [wni s t 0 i (by omega), wni s t (k + 1) i (by omega)]
    | succ k2 =>
      rw [wic, wic, ih k2 (i + t.length) (by omega) (by omega), ih k2 (i + 1) (by omega) (by omega)]
def mtT (t : List UInt8) (i : Nat) : Mt := (waj.put 0 i).put 1 ((i : Int) + t.length)
theorem wedc (s t : List UInt8) (ht : t.length ≤ 2) (h0 : 0 < t.length) : ∀ (k a : Nat), a + k = s.length + 1 →
    (wsk (rxT t) s k a = none ∧ wic s t k a = []) ∨ ∃ i : Nat, a ≤ i ∧ i + t.length ≤ s.length ∧ wsk (rxT t) s k a = some (mtT t i) ∧ wic s t k a = i :: wic s t (s.length + 1) (i + t.length) := by
  intro k
  induction k with
  | zero => intro a _; exact .inl ⟨rfl, rfl⟩
  | succ k ih =>
    intro a ha
    rw [wsk, wic, ways_T s t ht a (by omega)]
    by_cases h : wdk s t a = true
    · have hl : a + t.length ≤ s.length := by
        unfold wdk at h
        rw [Bool.and_eq_true, decide_eq_true_eq] at h
        exact h.1
      rw [if_pos h, if_pos h, if_pos hl]
      refine .inr ⟨a, Nat.le_refl _, hl, rfl, ?_⟩
      rw [wxw s t h0 k (s.length + 1) (a + t.length) (by omega) (by omega)]
    · rw [if_neg h, if_neg h]
      have h2 := ih (a + 1) (by omega)
      rw [show ((a + 1 : Nat) : Int) = (a : Int) + 1 from rfl] at h2
      simp only [wiq]
      by_cases hl : a + t.length ≤ s.length
      · rw [if_pos hl]
        rcases h2 with h2 | ⟨i, h3, h4, h5, h6⟩
        · exact .inl h2
        · exact .inr ⟨i, by omega, h4, h5, h6⟩
      · rw [if_neg hl]
        rw [wni s t k (a + 1) (by omega)] at h2
        rcases h2 with h2 | ⟨i, h3, h4, h5, h6⟩
        · exact .inl h2
        · omega
theorem mtT0 (t : List UInt8) (i : Nat) : (mtT t i).at 0 = i := mt_at0
theorem mtT1 (t : List UInt8) (i : Nat) : (mtT t i).at 1 = (i : Int) + t.length := mt_at1
theorem all_T (s t : List UInt8) (ht : t.length ≤ 2) (h0 : 0 < t.length) : ∀ (k a : Nat) (last : Int) (out : List Mt), s.length + 1 ≤ a + k →
    (alF (rxT t) s k a last out).2 = out ++ (wic s t (s.length + 1) a).map (mtT t) := by
  intro k
  induction k with
  | zero => intro a last out ha; rw [alF, wni s t _ a (by omega)]; simp
  | succ k ih =>
    intro a last out ha
    rw [alF]
    by_cases hq : a ≤ s.length
    · rw [if_pos (by omega), wcj, if_pos ⟨wbo t ht, by omega, by omega⟩, show ((s.length : Int) + 1 - a).toNat = s.length + 1 - a by omega]
      rw [wxw s t h0 (s.length + 1) (s.length + 1 - a) a (by omega) (by omega)]
      rcases wedc s t ht h0 (s.length + 1 - a) a (by omega) with ⟨h1, h2⟩ | ⟨i, h1, h2, h3, h4⟩
      · rw [h1, h2]; simp
      · rw [h3, h4]
        simp only []
        rw [mtT0, mtT1, if_neg (by omega)]
        have := ih (i + t.length) ((i : Int) + t.length) (out ++ [mtT t i]) (by omega)
        rw [show ((i + t.length : Nat) : Int) = (i : Int) + t.length from Int.natCast_add _ _] at this
        rw [this, List.map_cons, List.append_assoc]; rfl
    · rw [if_neg (by omega), wni s t _ a (by omega)]; simp
theorem allR_T (s t : List UInt8) (ht : t.length ≤ 2) (h0 : 0 < t.length) : allR (rxT t) s = (wic s t (s.length + 1) 0).map (mtT t) := by
  unfold allR
  have := all_T s t ht h0 (s.length + 1) 0 (-1) [] (by omega)
  rwa [List.nil_append] at this
theorem has_T (s t : List UInt8) (ht : t.length ≤ 2) (h0 : 0 < t.length) : (wcj (rxT t) s 0).isSome = decide (0 < (wic s t (s.length + 1) 0).length) := by
  rw [wcj, if_pos ⟨wbo t ht, by omega, by omega⟩, show ((s.length : Int) + 1 - 0).toNat = s.length + 1 by omega]
  rcases wedc s t ht h0 (s.length + 1) 0 (by omega) with ⟨h1, h2⟩ | ⟨i, h1, h2, h3, h4⟩
  · rw [show ((0 : Nat) : Int) = 0 from rfl] at h1
    rw [h1, h2]; rfl
  · rw [show ((0 : Nat) : Int) = 0 from rfl] at h3
    rw [h3, h4]; rfl
theorem wfdc (s : List UInt8) (k a : Nat) (ha : a + (k + 1) = s.length + 1) : wsk (rxT []) s (k + 1) a = some (mtT [] a) := by
  rw [wsk, ways_T s [] (by simp) a (by omega), wyo s a (by omega), if_pos rfl]
  rfl
theorem all_0 (s : List UInt8) : ∀ (k a : Nat) (last : Int) (out : List Mt), a + k = s.length + 1 → last < a → (alF (rxT []) s k a last out).2 = out ++ (List.range' a k).map (mtT []) := by
  intro k
  induction k with
  | zero => intro a last out ha _; rw [alF]; simp
  | succ k ih =>
    intro a last out ha hl
    rw [alF, if_pos (by omega), wcj, if_pos ⟨wbo [] (by simp), by omega, by omega⟩, show ((s.length : Int) + 1 - a).toNat = k + 1 by omega, wfdc s k a ha]
    simp only []
    rw [mtT0, mtT1, if_pos (by simp), if_neg (by simp; omega), List.length_nil]
    have := ih (a + 1) a (out ++ [mtT [] a]) (by omega) (by omega)
    rw [show ((a + 1 : Nat) : Int) = (a : Int) + 1 from rfl] at this
    rw [show (a : Int) + ((0 : Nat) : Int) = a by omega, this, List.range'_succ, List.map_cons, List.append_assoc]; rfl
theorem allR_0 (s : List UInt8) : allR (rxT []) s = (List.range' 0 (s.length + 1)).map (mtT []) := by
  unfold allR
  have := all_0 s (s.length + 1) 0 (-1) [] (by omega) (by omega)
  rwa [List.nil_append] at this
theorem has_0 (s : List UInt8) : (wcj (rxT []) s 0).isSome = true := by
  rw [wcj, if_pos ⟨wbo [] (by simp), by omega, by omega⟩, show ((s.length : Int) + 1 - 0).toNat = s.length + 1 by omega]
  have := wfdc s s.length 0 (by omega)
  rw [show ((0 : Nat) : Int) = 0 from rfl] at this
  rw [this]; rfl
end
end Go.Proofs.Ytdbhfmdndiphcaa
namespace Go.Proofs.Ytdbhfmdndiphcaa
set_option linter.unusedVariables false
set_option linter.unusedSimpArgs false
open Go.Den
noncomputable section
def elems1 : Option ABlk → Option (List Value)
  | some (.cells b) => (match (bif rdOk b 0 1 then some b else none) with
    | some b => some (slotsOf b.cells 0 1)
    | none => none)
  | _ => none
def b2s1 (o : Option ABlk) : ARes := match elems1 o with
  | some l => bif l.all isU8 then val (.string ⟨(l.map toU8).toArray⟩) else .none
  | none => .none
theorem b2s_HP {h : List ABlk} (hh : h.length ≤ 1099511627774) {i c : Nat} : b2sR (HP h) (.slice (some ⟨i, 0, none⟩) 1 c) = b2s1 h[i]? := by
  have h2 : wri (HP h) 1 1 (.slice (some ⟨i, 0, none⟩) 1 c) = elems1 h[i]? := by
    show (match wdh (HP h) ⟨i, 0, none⟩ 1 with
      | some b => some (slotsOf b.cells 0 1)
      | none => none) = _
    unfold wdh
    rw [wvh h hh]
    cases h[i]? with
    | none => rfl
    | some b => cases b <;> rfl
  show (match wri (HP h) 1 1 (.slice (some ⟨i, 0, none⟩) 1 c) with
    | some l => bif l.all isU8 then val (.string ⟨(l.map toU8).toArray⟩) else .none
    | none => .none) = _
  rw [h2]
  rfl
theorem b2s_X {x : Nat} {t z : Nat} {pf : Bool} (hx : x < 256) : b2s1 (some (X [.int .u8 (x : Nat)] t z pf)) = val (str [UInt8.ofNat x]) := by
  show (bif (Nat.blt x 256 && true) then val (.string ⟨#[UInt8.ofNat x]⟩) else .none) = _
  rw [nblt, decide_eq_true hx]
  rfl
def tb (k : Nat) : Nat := [97, 98, 97, 99, 98, 46, 97, 32].getD k 0
theorem tb_get {k : Nat} (h : k < 8) : ([.int .u8 97, .int .u8 98, .int .u8 97, .int .u8 99, .int .u8 98, .int .u8 46, .int .u8 97, .int .u8 32] : List Value)[k]? = some (.int .u8 (tb k)) := by
  rcases (show k = 0 ∨ k = 1 ∨ k = 2 ∨ k = 3 ∨ k = 4 ∨ k = 5 ∨ k = 6 ∨ k = 7 by omega) with rfl | rfl | rfl | rfl | rfl | rfl | rfl | rfl <;> rfl
theorem tb_lt (k : Nat) : tb k < 256 := by
  unfold tb
  rw [List.getD_eq_getElem?_getD]
  by_cases h : k < 8
  · rcases (show k = 0 ∨ k = 1 ∨ k = 2 ∨ k = 3 ∨ k = 4 ∨ k = 5 ∨ k = 6 ∨ k = 7 by omega) with rfl | rfl | rfl | rfl | rfl | rfl | rfl | rfl <;> decide
  · rw [List.getElem?_eq_none (by simp; omega)]; decide
def wgdc (n : Int) : UInt8 := UInt8.ofNat (tb (wnm n 0 7).toNat)
def whdc (l : List Int) (most : Nat) : List UInt8 := (l.take most).map wgdc
theorem wglb (n : Int) : 0 ≤ wnm n 0 7 ∧ wnm n 0 7 ≤ 7 := by
  unfold wnm
  have := Int.emod_nonneg n (show (8 : Int) ≠ 0 by omega)
  have h5 := Int.emod_lt_of_pos n (show (0 : Int) < 8 by omega)
  rw [show (7 : Int) - 0 + 1 = 8 from rfl, Int.tmod_eq_emod]
  repeat' split
  all_goals omega
theorem widc (l : List Int) (most : Nat) (hm : most ≤ 1000) : ∀ (k i : Nat) (acc : List UInt8), i + k = min l.length most → acc.length ≤ i →
    lim Try.prog cfg (.loop 26 0 (wvg 0) (SE (EJ 31 G0) [(6, .int .i64 i), (5, str acc), (1, .int .i64 most), (0, FL l.length (ints l))])) (HP []) = some (.code (.exit 0) (SE (EJ 31 G0) [(5, str (acc ++ ((l.take most).drop i).map wgdc))]), HP []) := by
  intro k
  induction k with
  | zero =>
    intro i acc hi ha
    rw [List.drop_of_length_le (by rw [List.length_take]; omega), List.map_nil, List.append_nil]
    refine ww wgi ?_
    unfold wnh
    by_cases h1 : (i : Int) < l.length
    · have h2 : ¬ (i : Int) < most := by omega
      (repeat' (first | (simp -implicitDefEqProofs (maxSteps := 2000000) (disch := first | with_reducible assumption | omega | (simp only [zS, zA, Nat.reduceEqDiff, Nat.reduceLT, Nat.reduceLeDiff, Nat.reduceAdd, Nat.reduceSub, reduceCtorEq] <;> omega) | fail) only [zS, argl, insA, Go.Den.wm, wo, wu, looks, wfb, web, idOf, riA, Nat.reduceLeDiff, Nat.reduceLT, Nat.reduceEqDiff, Nat.reduceDiv, Nat.reduceMod, Int.reduceLT, Int.reduceLE, Int.reduceEq, Int.reduceNeg, Int.reduceToNat, Int.reduceSub, Int.reduceMul, Int.reduceNe, Nat.reduceAdd, Nat.reduceMul, Nat.reduceSub, Int.reduceAdd, reduceCtorEq, Go.Den.wh, kK, wzf, wqb, wmb, wrb, *]) | (with_reducible (first | apply z1 | apply z2 | apply z3 | apply z4) <;> intro hq <;> (try simp only [zH] at hq) <;> (try (exfalso; omega)))))
    · (repeat' (first | (simp -implicitDefEqProofs (maxSteps := 2000000) (disch := first | with_reducible assumption | omega | (simp only [zS, zA, Nat.reduceEqDiff, Nat.reduceLT, Nat.reduceLeDiff, Nat.reduceAdd, Nat.reduceSub, reduceCtorEq] <;> omega) | fail) only [zS, argl, insA, Go.Den.wm, wo, wu, looks, wfb, web, idOf, riA, Nat.reduceLeDiff, Nat.reduceLT, Nat.reduceEqDiff, Nat.reduceDiv, Nat.reduceMod, Int.reduceLT, Int.reduceLE, Int.reduceEq, Int.reduceNeg, Int.reduceToNat, Int.reduceSub, Int.reduceMul, Int.reduceNe, Nat.reduceAdd, Nat.reduceMul, Nat.reduceSub, Int.reduceAdd, reduceCtorEq, Go.Den.wh, kK, wzf, wqb, wmb, wrb, *]) | (with_reducible (first | apply z1 | apply z2 | apply z3 | apply z4) <;> intro hq <;> (try simp only [zH] at hq) <;> (try (exfalso; omega)))))
  | succ k ih =>
    intro i acc hi ha
    have hlt : i < (l.take most).length := by rw [List.length_take]; omega
    rw [List.drop_eq_getElem_cons hlt, List.map_cons]
    have hg := wmcb (l := l) (i := i) (by omega)
    have hv : (l.take most)[i] = l.getD i 0 := by rw [List.getElem_take, List.getD_eq_getElem?_getD, List.getElem?_eq_getElem (by omega)]; rfl
    rw [hv]
    have hw := wdcc (l.getD i 0) 0 7 (by omega) (by omega) (by omega)
    have hin := wglb (l.getD i 0)
    have htb := tb_get (k := (wnm (l.getD i 0) 0 7).toNat) (by omega)
    have hlt2 := tb_lt (wnm (l.getD i 0) 0 7).toNat
    have h1 : (i : Int) < l.length := by omega
    have h2 : (i : Int) < most := by omega
    · have h := ih (i + 1) (acc ++ [wgdc (l.getD i 0)]) (by omega) (by simp; omega)
      rw [List.append_assoc, List.singleton_append] at h
      clear ih hv hlt
      unfold wgdc at h ⊢
      generalize wnm (l.getD i 0) 0 7 = w at *
      generalize tb w.toNat = c at *
      refine ww wgi ?_
      unfold wnh
      (repeat' (first | (simp -implicitDefEqProofs (maxSteps := 2000000) (disch := first | with_reducible assumption | omega | (simp only [zS, zA, Nat.reduceEqDiff, Nat.reduceLT, Nat.reduceLeDiff, Nat.reduceAdd, Nat.reduceSub, reduceCtorEq] <;> omega) | fail) only [zS, argl, insA, Go.Den.wm, wo, wu, looks, wfb, web, idOf, riA, Nat.reduceLeDiff, Nat.reduceLT, Nat.reduceEqDiff, Nat.reduceDiv, Nat.reduceMod, Int.reduceLT, Int.reduceLE, Int.reduceEq, Int.reduceNeg, Int.reduceToNat, Int.reduceSub, Int.reduceMul, Int.reduceNe, Nat.reduceAdd, Nat.reduceMul, Nat.reduceSub, Int.reduceAdd, reduceCtorEq, Go.Den.wh, kK, wzf, wqb, wmb, wrb, b2s_HP, b2s_X, *]) | (with_reducible (first | apply z1 | apply z2 | apply z3 | apply z4) <;> intro hq <;> (try simp only [zH] at hq) <;> (try (exfalso; omega)))))
      exact h
theorem wjdc (l : List Int) (most : Nat) (hm : most ≤ 1000) : lim Try.prog cfg (.call 26 [FL l.length (ints l), .int .i64 most]) (HP []) = some (.val (str (whdc l most)), HP []) := by
  have h := widc l most hm (min l.length most) 0 [] (by omega) (by simp)
  rw [List.drop_zero, List.nil_append, show ((0 : Nat) : Int) = 0 from rfl] at h
  refine wjc hc wgp (Nat.le_of_ble_eq_true rfl) (Nat.le_of_ble_eq_true rfl) ?_
  unfold wgl
  show _ = some (Out.val (str ((l.take most).map wgdc)), HP [])
  (repeat' (first | (simp -implicitDefEqProofs (maxSteps := 2000000) (disch := first | with_reducible assumption | omega | (simp only [zS, zA, Nat.reduceEqDiff, Nat.reduceLT, Nat.reduceLeDiff, Nat.reduceAdd, Nat.reduceSub, reduceCtorEq] <;> omega) | fail) only [zS, argl, insA, Go.Den.wm, wo, wu, looks, wfb, web, idOf, riA, Nat.reduceLeDiff, Nat.reduceLT, Nat.reduceEqDiff, Nat.reduceDiv, Nat.reduceMod, Int.reduceLT, Int.reduceLE, Int.reduceEq, Int.reduceNeg, Int.reduceToNat, Int.reduceSub, Int.reduceMul, Int.reduceNe, Nat.reduceAdd, Nat.reduceMul, Nat.reduceSub, Int.reduceAdd, reduceCtorEq, Go.Den.wh, kK, wzf, wqb, *]) | (with_reducible (first | apply z1 | apply z2 | apply z3 | apply z4) <;> intro hq <;> (try simp only [zH] at hq) <;> (try (exfalso; omega)))))
end
end Go.Proofs.Ytdbhfmdndiphcaa
namespace Go.Proofs.Ytdbhfmdndiphcaa
set_option linter.unusedVariables false
set_option linter.unusedSimpArgs false
open Go.Den
noncomputable section
abbrev bsB (z s : BitVec 256) : List ABlk := [X (setC z) 44 0 true, X (setC s) 44 0 true]
theorem wrgb {a b c d e : Value} {s : BitVec 256} : wm [a, b, c, d, e] 0 (setC s) = [wdV s 0, wdV s 1, wdV s 2, wdV s 3, e] := rfl
theorem ej26 : (EJ 26 G0).get 4 = JK := rfl
theorem wkdc (l : List Int) (hl : l.length ≤ 16000000) : ∀ (k i : Nat), i + k = l.length →
    lim Try.prog cfg (.loop 38 0 (whf 0) (SE (EJ 26 G0) [(5, .int .i64 i), (1, FL l.length (ints l)), (0, FL l.length (ints l))])) (HP []) = some (.code (.exit 0) (SE (EJ 26 G0) [(4, JK)]), HP []) := by
  intro k
  induction k with
  | zero =>
    intro i hi
    refine ww wzg ?_
    unfold wyf
    (repeat' (first | (simp -implicitDefEqProofs (maxSteps := 2000000) (disch := first | with_reducible assumption | omega | (simp only [zS, zA, Nat.reduceEqDiff, Nat.reduceLT, Nat.reduceLeDiff, Nat.reduceAdd, Nat.reduceSub, reduceCtorEq, wbb, wib] <;> omega) | fail) only [zS, argl, insA, Go.Den.wm, wo, wu, looks, wfb, web, idOf, riA, Nat.reduceLeDiff, Nat.reduceLT, Nat.reduceEqDiff, Nat.reduceDiv, Nat.reduceMod, Int.reduceLT, Int.reduceLE, Int.reduceEq, Int.reduceNeg, Int.reduceToNat, Int.reduceSub, Int.reduceMul, Int.reduceNe, Nat.reduceAdd, Nat.reduceMul, Nat.reduceSub, Int.reduceAdd, reduceCtorEq, Go.Den.wh, kK, wag, wqb, wbb, wib, ej26, *]) | (with_reducible (first | apply z1 | apply z2 | apply z3 | apply z4) <;> intro hq <;> (try simp only [zH] at hq) <;> (try (exfalso; omega))) | (with_reducible apply z5; (case hl => (repeat (first | exact .nil | with_reducible apply z6 | with_reducible apply z7))); (case h => kernel_rfl))))
  | succ k ih =>
    intro i hi
    have h := ih (i + 1) (by omega)
    have hg := wmcb (l := l) (i := i) (by omega)
    clear ih
    refine ww wzg ?_
    unfold wyf
    (repeat' (first | (simp -implicitDefEqProofs (maxSteps := 2000000) (disch := first | with_reducible assumption | omega | (simp only [zS, zA, Nat.reduceEqDiff, Nat.reduceLT, Nat.reduceLeDiff, Nat.reduceAdd, Nat.reduceSub, reduceCtorEq, wbb, wib] <;> omega) | fail) only [zS, argl, insA, Go.Den.wm, wo, wu, looks, wfb, web, idOf, riA, Nat.reduceLeDiff, Nat.reduceLT, Nat.reduceEqDiff, Nat.reduceDiv, Nat.reduceMod, Int.reduceLT, Int.reduceLE, Int.reduceEq, Int.reduceNeg, Int.reduceToNat, Int.reduceSub, Int.reduceMul, Int.reduceNe, Nat.reduceAdd, Nat.reduceMul, Nat.reduceSub, Int.reduceAdd, reduceCtorEq, Go.Den.wh, kK, wag, wqb, wbb, wib, ej26, *]) | (with_reducible (first | apply z1 | apply z2 | apply z3 | apply z4) <;> intro hq <;> (try simp only [zH] at hq) <;> (try (exfalso; omega))) | (with_reducible apply z5; (case hl => (repeat (first | exact .nil | with_reducible apply z6 | with_reducible apply z7))); (case h => kernel_rfl))))
    all_goals exact h
theorem weu (l : List Int) (hl : l.length ≤ 16000000) : lim Try.prog cfg (.call 38 [FL l.length (ints l), FL l.length (ints l)]) (HP []) = some (.val (.bool true), HP []) := by
  have h := wkdc l hl l.length 0 (by omega)
  rw [show ((0 : Nat) : Int) = 0 from rfl] at h
  refine wjc hc whl (Nat.le_of_ble_eq_true rfl) (Nat.le_of_ble_eq_true rfl) ?_
  unfold wzi
  (repeat' (first | (simp -implicitDefEqProofs (maxSteps := 2000000) (disch := first | with_reducible assumption | omega | (simp only [zS, zA, Nat.reduceEqDiff, Nat.reduceLT, Nat.reduceLeDiff, Nat.reduceAdd, Nat.reduceSub, reduceCtorEq, wbb, wib] <;> omega) | fail) only [zS, argl, insA, Go.Den.wm, wo, wu, looks, wfb, web, idOf, riA, Nat.reduceLeDiff, Nat.reduceLT, Nat.reduceEqDiff, Nat.reduceDiv, Nat.reduceMod, Int.reduceLT, Int.reduceLE, Int.reduceEq, Int.reduceNeg, Int.reduceToNat, Int.reduceSub, Int.reduceMul, Int.reduceNe, Nat.reduceAdd, Nat.reduceMul, Nat.reduceSub, Int.reduceAdd, reduceCtorEq, Go.Den.wh, kK, wag, wqb, wbb, wib, ej26, *]) | (with_reducible (first | apply z1 | apply z2 | apply z3 | apply z4) <;> intro hq <;> (try simp only [zH] at hq) <;> (try (exfalso; omega)))))
end
end Go.Proofs.Ytdbhfmdndiphcaa
namespace Go.Proofs.Ytdbhfmdndiphcaa
set_option linter.unusedVariables false
set_option linter.unusedSimpArgs false
open Go.Den
noncomputable section
theorem of_end (x : Nat) (z s : BitVec 256) :
    lim Try.prog cfg (.loop 37 0 (wil 0) (SE (EJ 23 G0) [(8, .int .i64 1), (7, .int .i64 1), (6, FL 1 [.int .u8 x]), (3, .pointer (some ⟨1, 0, none⟩)), (2, .pointer (some ⟨0, 0, none⟩))])) (HP (bsB z s)) = some (.code (.exit 0) (SE (EJ 23 G0) [(3, .pointer (some ⟨1, 0, none⟩)), (2, .pointer (some ⟨0, 0, none⟩))]), HP (bsB z s)) := by
  refine ww wyn ?_
  unfold wxn
  (repeat' (first | (simp -implicitDefEqProofs (maxSteps := 2000000) (disch := first | with_reducible assumption | omega | (simp only [zS, zA, Nat.reduceEqDiff, Nat.reduceLT, Nat.reduceLeDiff, Nat.reduceAdd, Nat.reduceSub, reduceCtorEq, wjz, zD] <;> omega) | fail) only [zS, argl, insA, Go.Den.wm, wo, wu, looks, wfb, web, idOf, riA, Nat.reduceLeDiff, Nat.reduceLT, Nat.reduceEqDiff, Nat.reduceDiv, Nat.reduceMod, Int.reduceLT, Int.reduceLE, Int.reduceEq, Int.reduceNeg, Int.reduceToNat, Int.reduceSub, Int.reduceMul, Int.reduceNe, Nat.reduceAdd, Nat.reduceMul, Nat.reduceSub, Int.reduceAdd, reduceCtorEq, Go.Den.wh, kK, wzn, *, zT]) | (with_reducible (first | apply z1 | apply z2 | apply z3 | apply z4) <;> intro hq <;> (try simp only [zH] at hq) <;> (try (exfalso; omega)))))
theorem of_step (x : Nat) (hx : x < 256) (z s : BitVec 256) :
    lim Try.prog cfg (.loop 37 0 (wil 0) (SE (EJ 23 G0) [(8, .int .i64 0), (7, .int .i64 1), (6, FL 1 [.int .u8 x]), (3, .pointer (some ⟨1, 0, none⟩)), (2, .pointer (some ⟨0, 0, none⟩))])) (HP (bsB z s)) = some (.code (.exit 0) (SE (EJ 23 G0) [(3, .pointer (some ⟨1, 0, none⟩)), (2, .pointer (some ⟨0, 0, none⟩))]), HP (bsB z (s ||| one x))) := by
  have h := of_end x z (s ||| one x)
  rw [← or_one s x hx] at h
  refine ww wyn ?_
  unfold wxn
  have h1 : BitVec.ofInt (IntKind.bits .u64) 1 = BitVec.ofInt (IntKind.bits .u64) (((1#64).toNat : Nat) : Int) := rfl
  have e1 : ((x : Int) / 64).toNat = x / 64 := by omega
  have e2 : ((x : Int) % 64).toNat = x % 64 := by omega
  have hs : IntKind.wrap .u64 (1 * 2 ^ (min (x % 64) (IntKind.bits .u64))) = ((1#64 <<< (x % 64)).toNat : Nat) := by
    have := shl_u64 (b := ((x % 64 : Nat) : Int)) (by omega) (by omega)
    rwa [Int.toNat_natCast] at this
  have ho := or_u64 (wd s (x / 64)) (1#64 <<< (x % 64))
  have hset := setC_set s (show x / 64 < 4 by omega) (wd s (x / 64) ||| (1#64 <<< (x % 64)))
  rw [← or_one s x hx]
  (repeat' (first | (simp -implicitDefEqProofs (maxSteps := 2000000) (disch := first | with_reducible assumption | omega | (simp only [zS, zA, Nat.reduceEqDiff, Nat.reduceLT, Nat.reduceLeDiff, Nat.reduceAdd, Nat.reduceSub, reduceCtorEq, wjz, zD] <;> omega) | fail) only [zS, argl, insA, Go.Den.wm, wo, wu, looks, wfb, web, idOf, riA, Nat.reduceLeDiff, Nat.reduceLT, Nat.reduceEqDiff, Nat.reduceDiv, Nat.reduceMod, Int.reduceLT, Int.reduceLE, Int.reduceEq, Int.reduceNeg, Int.reduceToNat, Int.reduceSub, Int.reduceMul, Int.reduceNe, Nat.reduceAdd, Nat.reduceMul, Nat.reduceSub, Int.reduceAdd, reduceCtorEq, Go.Den.wh, kK, wzn, wanb, wkw, *, zT]) | (with_reducible (first | apply z1 | apply z2 | apply z3 | apply z4) <;> intro hq <;> (try simp only [zH] at hq) <;> (try (exfalso; omega)))))
  all_goals exact h
theorem ev_Of1 (x : Nat) (hx : x < 256) : lim Try.prog cfg (.call 37 [FL 1 [.int .u8 x]]) (HP []) = some (.val (.agg ⟨setC (one x)⟩), HP []) := by
  have h := of_step x hx 0#256 0#256
  rw [show (0#256 ||| one x) = one x by simp] at h
  unfold bsB at h
  rw [show setC 0#256 = [.int .u64 0, .int .u64 0, .int .u64 0, .int .u64 0] from rfl] at h
  have h0 : ((1 : Nat) : Int) = 1 := rfl
  refine wjc hc wacb (Nat.le_of_ble_eq_true rfl) (Nat.le_of_ble_eq_true rfl) ?_
  unfold wgz
  (repeat' (first | (simp -implicitDefEqProofs (maxSteps := 2000000) (disch := first | with_reducible assumption | omega | (simp only [zS, zA, Nat.reduceEqDiff, Nat.reduceLT, Nat.reduceLeDiff, Nat.reduceAdd, Nat.reduceSub, reduceCtorEq, wjz, zD] <;> omega) | fail) only [zS, argl, insA, Go.Den.wm, wo, wu, looks, wfb, web, idOf, riA, Nat.reduceLeDiff, Nat.reduceLT, Nat.reduceEqDiff, Nat.reduceDiv, Nat.reduceMod, Int.reduceLT, Int.reduceLE, Int.reduceEq, Int.reduceNeg, Int.reduceToNat, Int.reduceSub, Int.reduceMul, Int.reduceNe, Nat.reduceAdd, Nat.reduceMul, Nat.reduceSub, Int.reduceAdd, reduceCtorEq, Go.Den.wh, kK, wzn, *, zT]) | (with_reducible (first | apply z1 | apply z2 | apply z3 | apply z4) <;> intro hq <;> (try simp only [zH] at hq) <;> (try (exfalso; omega)))))
end
end Go.Proofs.Ytdbhfmdndiphcaa
namespace Go.Den
noncomputable section
variable {P : Program}
end
end Go.Den
namespace Go.Den
noncomputable section
theorem wtcb : nfL [] = [] := rfl
theorem wfu {v : Value} {r : List Value} : nfL (v :: r) = nfV v :: nfL r := rfl
theorem wnnb {k : IntKind} {n : Int} : nfV (.int k n) = .int k n := rfl
theorem nf_FL {n : Nat} {cs : List Value} : nfV (FL n cs) = FL n cs := rfl
theorem wucb : nfV (.slice none 0 0) = FL 0 [] := rfl
theorem wsgb {h : List ABlk} (hh : h.length ≤ 1099511627774) {elem size bytes n : Nat} {new : List Value} (hn : n ≤ 16777216) (hb : bytes ≤ 1048576) (ha : wye (nfL new) = true) :
    appN h elem size bytes (.slice none 0 0) n new = .eff (FO h.length n (nfL new)) (HP (h ++ [.tok n elem size])) := by
  show (bif roomy n bytes then wyh true (HP h) elem size new n else .none) = _
  have h1 : roomy n bytes = true := by unfold roomy; rw [nble, nble, decide_eq_true hn, decide_eq_true hb]; rfl
  rw [h1, cond_true]
  show (bif wax (HP h) (nfL new) then ARes.eff (FO (HP h).n n (nfL new)) ((HP h).push (.tok n elem size)) else .none) = _
  have h2 : wax (HP h) (nfL new) = true := by
    unfold wax
    rw [wxi ha, wwn ha, HP_n, wjh hh]; rfl
  rw [h2, cond_true, HP_n, wyj]
theorem wonb {h : List ABlk} (hh : h.length ≤ 1099511627774) {elem size bytes t len n : Nat} {cs new : List Value} (ht : t < h.length) (hn : len + n ≤ 16777216) (hb : bytes ≤ 1048576) (hc : cs.length = len * size) (ha : wye (nfL new) = true) :
    appN h elem size bytes (FO t len cs) n new = appT h elem size t len n cs (nfL new) h[t]? := by
  show (bif roomy (len + n) bytes then wpl (HP h) elem size t len cs (nfL new) n else .none) = _
  have h1 : roomy (len + n) bytes = true := by unfold roomy; rw [nble, nble, decide_eq_true hn, decide_eq_true hb]; rfl
  rw [h1, cond_true]
  generalize nfL new = new at *
  unfold wpl
  rw [wvh h hh]
  cases hq : h[t]? with
  | none => rfl
  | some b =>
    cases b with
    | cells b => rfl
    | map es => rfl
    | tok m el es =>
      show (bif wip m el es elem size t len cs new then _ else _) = (bif decide (m = len ∧ el = elem ∧ es = size) then _ else _)
      have h2 : wip m el es elem size t len cs new = decide (m = len ∧ el = elem ∧ es = size) := by
        unfold wip
        rw [wxi ha, wwn ha, hc, Nat.beq_refl, wjh (by omega), nbeq, nbeq, nbeq]
        by_cases q1 : m = len <;> by_cases q2 : el = elem <;> by_cases q3 : es = size <;> simp [q1, q2, q3]
      rw [h2, wsr _ _ _ ht]
      by_cases q : m = len ∧ el = elem ∧ es = size
      · obtain ⟨rfl, rfl, rfl⟩ := q; rfl
      · rw [decide_eq_false q]; rfl
end
end Go.Den
