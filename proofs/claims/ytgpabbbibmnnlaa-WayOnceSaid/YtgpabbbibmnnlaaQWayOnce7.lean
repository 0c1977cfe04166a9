/-
  PARTS OF A PROOF, joined by a program (7 of 8): a proved reckoner of the model, and what the functions come to.
-/
import Derived.Test.YtgpabbbibmnnlaaQWayOnce6
set_option linter.unusedVariables false
set_option linter.unusedSimpArgs false
namespace Go.Proofs.Ytgpabbbibmnnlaa
set_option linter.unusedVariables false
set_option linter.unusedSimpArgs false
open Go.Den
noncomputable section
section
variable (s : List UInt8) (bol : Bool) (mn mx nn : Int) (set : BitVec 256) (kids : List Rx)
theorem wvac {w : St → List St} {mn mx : Int} {k : Nat} {n : Int} {x : St} {a : List Turn × List St} (h : keyF mn mx n x ∈ a.1) : onF w mn mx (k + 1) n x a = a := by
  rw [onF, if_pos h]
theorem wtbb {w : St → List St} {mn mx : Int} {k : Nat} {n : Int} {x : St} {met : List Turn} {out : List St} (h : keyF mn mx n x ∉ met) (b : List Turn × List St) (hb : b = if mx < 0 ∨ n < mx then wvt w mn mx k n x (w x) (met ++ [keyF mn mx n x], out) else (met ++ [keyF mn mx n x], out)) :
    onF w mn mx (k + 1) n x (met, out) = if n ≥ mn then (b.1, addF b.2 [x]) else b := by
  rw [onF, if_neg h, hb]
  rfl
set_option maxHeartbeats 4000000 in
theorem ev_on_C (hs : s.length ≤ 12) (hmn : 0 ≤ mn ∧ mn ≤ 20) (hmx : mx ≤ 20) (w : St → List St) (a : Int) (hk : KidOk s bol kids w) (k : Nat) (IH : OnC s bol mn mx nn set kids w a k) : OnC s bol mn mx nn set kids w a (k + 1) := by
  intro n x met out hn hn2 hx hxa hmu ho hr
  obtain ⟨kid, k1, k2, k3⟩ := hk
  have hw := fun y hy => (k3 y hy).1
  have ⟨r1, r2⟩ := k3 x hx
  have r3 := row_len r1 hs
  have key := ev_key_C s bol mn mx nn set kids
  refine wlb hc whj (Nat.le_of_ble_eq_true rfl) (Nat.le_of_ble_eq_true rfl) ?_
  unfold wki
  by_cases hm : keyF mn mx n x ∈ met
  · rw [wvac hm]
    clear IH k3 hw r1 r2
    (repeat' (first | (simp -implicitDefEqProofs (maxSteps := 2000000) (disch := first | with_reducible assumption | omega | (simp only [zS, zA, seval, ww, wqf, wdb, wnb, zD] <;> omega) | fail) only [zS, argl, insA, Go.Den.wm, wo, wu, looks, wbb, wab, idOf, riA, seval, Go.Den.wh, kK, ww, wdb, wnb, whd wyg, wcg, wqf, *, zT]) | (with_reducible (first | apply z1 | apply z2 | apply z3 | apply z4) <;> intro hq <;> (try simp only [zH] at hq) <;> (try (exfalso; omega))) | (with_reducible apply z5; (case hl => (repeat (first | exact .nil | with_reducible apply z6 | with_reducible apply z7))); (case h => kernel_rfl))))
  · by_cases hnm : mx < 0 ∨ n < mx
    · have hb := wtbb (w := w) (k := k) (out := out) hm _ rfl
      rw [if_pos hnm] at hb
      have hl := on_loopC s bol mn mx nn set kids hs hmn hmx w a hw k IH n ⟨hn, by omega⟩ hnm x hx hxa hmu (w x) (by omega) r1.good (w x).length 0 (met ++ [keyF mn mx n x]) out (by omega) ho hr
      rw [List.drop_zero, show ((0 : Nat) : Int) = 0 from rfl] at hl
      simp only [List.cons_append, List.nil_append] at hl
      have hbr := wpfb (a := a) (mn := mn) (mx := mx) hw (k := k) (n := n) (x := x) (w x) (met ++ [keyF mn mx n x], out) (fun y hy => ⟨(r1.good y hy).1, by have := (r1.good y hy).2; omega⟩) hr
      have hbn := wimb (w := w) (mn := mn) (mx := mx) (k := k) (n := n) (x := x) (w x) (met ++ [keyF mn mx n x], out) ho
      generalize wvt w mn mx k n x (w x) (met ++ [keyF mn mx n x], out) = b at hb hl hbr hbn
      obtain ⟨bm, bo⟩ := b
      simp only at hb hl hbr hbn
      rw [hb]
      have hadd := wdp bo [x] hbn (by simp) (by have := row_len (hbr.add (xs := [x]) (fun y hy => by rw [List.mem_singleton] at hy; subst hy; exact ⟨hx, hxa⟩)) hs; omega)
      rw [wgg, show [x].length = 1 from rfl] at hadd
      clear IH k3 hw r1 hb hbr
      by_cases hge : n ≥ mn
      · rw [if_pos hge]
        by_cases hmx0 : mx < 0
        · (repeat' (first | (simp -implicitDefEqProofs (maxSteps := 2000000) (disch := first | with_reducible assumption | omega | (simp only [zS, zA, seval, ww, wqf, wdb, wnb, zD] <;> omega) | fail) only [zS, argl, insA, Go.Den.wm, wo, wu, looks, wbb, wab, idOf, riA, seval, Go.Den.wh, kK, wz, ww, wdb, wnb, whd wyg, wye wyg, wcg, wqf, *, zT]) | (with_reducible (first | apply z1 | apply z2 | apply z3 | apply z4) <;> intro hq <;> (try simp only [zH] at hq) <;> (try (exfalso; omega))) | (with_reducible apply z5; (case hl => (repeat (first | exact .nil | with_reducible apply z6 | with_reducible apply z7))); (case h => kernel_rfl))))
        · have hnm2 : n < mx := by omega
          (repeat' (first | (simp -implicitDefEqProofs (maxSteps := 2000000) (disch := first | with_reducible assumption | omega | (simp only [zS, zA, seval, ww, wqf, wdb, wnb, zD] <;> omega) | fail) only [zS, argl, insA, Go.Den.wm, wo, wu, looks, wbb, wab, idOf, riA, seval, Go.Den.wh, kK, wz, ww, wdb, wnb, whd wyg, wye wyg, wcg, wqf, *, zT]) | (with_reducible (first | apply z1 | apply z2 | apply z3 | apply z4) <;> intro hq <;> (try simp only [zH] at hq) <;> (try (exfalso; omega))) | (with_reducible apply z5; (case hl => (repeat (first | exact .nil | with_reducible apply z6 | with_reducible apply z7))); (case h => kernel_rfl))))
      · rw [if_neg hge]
        by_cases hmx0 : mx < 0
        · (repeat' (first | (simp -implicitDefEqProofs (maxSteps := 2000000) (disch := first | with_reducible assumption | omega | (simp only [zS, zA, seval, ww, wqf, wdb, wnb, zD] <;> omega) | fail) only [zS, argl, insA, Go.Den.wm, wo, wu, looks, wbb, wab, idOf, riA, seval, Go.Den.wh, kK, wz, ww, wdb, wnb, whd wyg, wye wyg, wcg, wqf, *, zT]) | (with_reducible (first | apply z1 | apply z2 | apply z3 | apply z4) <;> intro hq <;> (try simp only [zH] at hq) <;> (try (exfalso; omega))) | (with_reducible apply z5; (case hl => (repeat (first | exact .nil | with_reducible apply z6 | with_reducible apply z7))); (case h => kernel_rfl))))
        · have hnm2 : n < mx := by omega
          (repeat' (first | (simp -implicitDefEqProofs (maxSteps := 2000000) (disch := first | with_reducible assumption | omega | (simp only [zS, zA, seval, ww, wqf, wdb, wnb, zD] <;> omega) | fail) only [zS, argl, insA, Go.Den.wm, wo, wu, looks, wbb, wab, idOf, riA, seval, Go.Den.wh, kK, wz, ww, wdb, wnb, whd wyg, wye wyg, wcg, wqf, *, zT]) | (with_reducible (first | apply z1 | apply z2 | apply z3 | apply z4) <;> intro hq <;> (try simp only [zH] at hq) <;> (try (exfalso; omega))) | (with_reducible apply z5; (case hl => (repeat (first | exact .nil | with_reducible apply z6 | with_reducible apply z7))); (case h => kernel_rfl))))
    · have hb := wtbb (w := w) (k := k) (out := out) hm _ rfl
      rw [if_neg hnm] at hb
      simp only at hb
      rw [hb]
      have hmx0 : ¬ mx < 0 := fun h => hnm (.inl h)
      have hnm2 : ¬ n < mx := fun h => hnm (.inr h)
      have hadd := wdp out [x] ho (by simp) (by have := row_len (hr.add (xs := [x]) (fun y hy => by rw [List.mem_singleton] at hy; subst hy; exact ⟨hx, hxa⟩)) hs; omega)
      rw [wgg, show [x].length = 1 from rfl] at hadd
      clear IH k3 hw r1 r2 hb hnm
      by_cases hge : n ≥ mn
      · rw [if_pos hge]
        (repeat' (first | (simp -implicitDefEqProofs (maxSteps := 2000000) (disch := first | with_reducible assumption | omega | (simp only [zS, zA, seval, ww, wqf, wdb, wnb, zD] <;> omega) | fail) only [zS, argl, insA, Go.Den.wm, wo, wu, looks, wbb, wab, idOf, riA, seval, Go.Den.wh, kK, wz, ww, wdb, wnb, whd wyg, wye wyg, wcg, wqf, *, zT]) | (with_reducible (first | apply z1 | apply z2 | apply z3 | apply z4) <;> intro hq <;> (try simp only [zH] at hq) <;> (try (exfalso; omega))) | (with_reducible apply z5; (case hl => (repeat (first | exact .nil | with_reducible apply z6 | with_reducible apply z7))); (case h => kernel_rfl))))
      · rw [if_neg hge]
        (repeat' (first | (simp -implicitDefEqProofs (maxSteps := 2000000) (disch := first | with_reducible assumption | omega | (simp only [zS, zA, seval, ww, wqf, wdb, wnb, zD] <;> omega) | fail) only [zS, argl, insA, Go.Den.wm, wo, wu, looks, wbb, wab, idOf, riA, seval, Go.Den.wh, kK, wz, ww, wdb, wnb, whd wyg, wye wyg, wcg, wqf, *, zT]) | (with_reducible (first | apply z1 | apply z2 | apply z3 | apply z4) <;> intro hq <;> (try simp only [zH] at hq) <;> (try (exfalso; omega))) | (with_reducible apply z5; (case hl => (repeat (first | exact .nil | with_reducible apply z6 | with_reducible apply z7))); (case h => kernel_rfl))))
end
end
end Go.Proofs.Ytgpabbbibmnnlaa
namespace Go.Proofs.Ytgpabbbibmnnlaa
set_option linter.unusedVariables false
set_option linter.unusedSimpArgs false
open Go.Den
noncomputable section
section
variable (s : List UInt8) (bol : Bool) (mn mx nn : Int) (set : BitVec 256) (kids : List Rx)
set_option maxHeartbeats 4000000 in
theorem ev_on_N (hs : s.length ≤ 12) (hmn : 0 ≤ mn ∧ mn ≤ 20) (hmx : mx ≤ 20) (w : St → List St) (a : Int) (hk : KidOk s bol kids w) (k : Nat) (IHC : OnC s bol mn mx nn set kids w a k) (IH : OnN s bol mn mx nn set kids w a k) : OnN s bol mn mx nn set kids w a (k + 1) := by
  intro n x met hn hn2 hx hxa hmu
  obtain ⟨kid, k1, k2, k3⟩ := hk
  have hw := fun y hy => (k3 y hy).1
  have ⟨r1, r2⟩ := k3 x hx
  have r3 := row_len r1 hs
  have key := ev_key_N s bol mn mx nn set kids
  refine wlb hc whj (Nat.le_of_ble_eq_true rfl) (Nat.le_of_ble_eq_true rfl) ?_
  unfold wki
  by_cases hm : keyF mn mx n x ∈ met
  · rw [wvac hm, reO, if_pos rfl]
    clear IH IHC k3 hw r1 r2
    (repeat' (first | (simp -implicitDefEqProofs (maxSteps := 2000000) (disch := first | with_reducible assumption | omega | (simp only [zS, zA, seval, ww, wqf, wdb, wnb, zD] <;> omega) | fail) only [zS, argl, insA, Go.Den.wm, wo, wu, looks, wbb, wab, idOf, riA, seval, Go.Den.wh, kK, ww, wdb, wnb, whd wyg, wcg, wqf, *, zT]) | (with_reducible (first | apply z1 | apply z2 | apply z3 | apply z4) <;> intro hq <;> (try simp only [zH] at hq) <;> (try (exfalso; omega))) | (with_reducible apply z5; (case hl => (repeat (first | exact .nil | with_reducible apply z6 | with_reducible apply z7))); (case h => kernel_rfl))))
  · by_cases hnm : mx < 0 ∨ n < mx
    · have hb := wtbb (w := w) (k := k) (out := []) hm _ rfl
      rw [if_pos hnm] at hb
      have hl := on_loopN s bol mn mx nn set kids hs hmn hmx w a hw k IHC IH n ⟨hn, by omega⟩ hnm x hx hxa hmu (w x) (by omega) r1.good (w x).length 0 (met ++ [keyF mn mx n x]) (by omega)
      rw [List.drop_zero, show ((0 : Nat) : Int) = 0 from rfl] at hl
      have hbr := wpfb (a := a) (mn := mn) (mx := mx) hw (k := k) (n := n) (x := x) (w x) (met ++ [keyF mn mx n x], []) (fun y hy => ⟨(r1.good y hy).1, by have := (r1.good y hy).2; omega⟩) .nil
      generalize wvt w mn mx k n x (w x) (met ++ [keyF mn mx n x], []) = b at hb hl hbr
      obtain ⟨bm, bo⟩ := b
      simp only at hb hbr
      rw [hb]
      have hlen : (addF bo [x]).length ≤ 16000000 := by have := row_len (hbr.add (xs := [x]) (fun y hy => by rw [List.mem_singleton] at hy; subst hy; exact ⟨hx, hxa⟩)) hs; omega
      clear IH IHC k3 hw r1 hb hbr
      unfold feO at hl
      by_cases hbo : bo = []
      · subst hbo
        rw [if_pos rfl] at hl
        have hadd := wzr [x] (by simp) (by simp) hlen
        rw [wgg, show [x].length = 1 from rfl] at hadd
        by_cases hge : n ≥ mn
        · rw [if_pos hge, reO, if_neg (wai (.inr (by simp)))]
          by_cases hmx0 : mx < 0
          · (repeat' (first | (simp -implicitDefEqProofs (maxSteps := 2000000) (disch := first | with_reducible assumption | omega | (simp only [zS, zA, seval, ww, wqf, wdb, wnb, zD] <;> omega) | fail) only [zS, argl, insA, Go.Den.wm, wo, wu, looks, wbb, wab, idOf, riA, seval, Go.Den.wh, kK, wz, ww, wdb, wnb, whd wyg, wye wyg, wcg, wqf, *, zT]) | (with_reducible (first | apply z1 | apply z2 | apply z3 | apply z4) <;> intro hq <;> (try simp only [zH] at hq) <;> (try (exfalso; omega))) | (with_reducible apply z5; (case hl => (repeat (first | exact .nil | with_reducible apply z6 | with_reducible apply z7))); (case h => kernel_rfl))))
          · have hnm2 : n < mx := by omega
            (repeat' (first | (simp -implicitDefEqProofs (maxSteps := 2000000) (disch := first | with_reducible assumption | omega | (simp only [zS, zA, seval, ww, wqf, wdb, wnb, zD] <;> omega) | fail) only [zS, argl, insA, Go.Den.wm, wo, wu, looks, wbb, wab, idOf, riA, seval, Go.Den.wh, kK, wz, ww, wdb, wnb, whd wyg, wye wyg, wcg, wqf, *, zT]) | (with_reducible (first | apply z1 | apply z2 | apply z3 | apply z4) <;> intro hq <;> (try simp only [zH] at hq) <;> (try (exfalso; omega))) | (with_reducible apply z5; (case hl => (repeat (first | exact .nil | with_reducible apply z6 | with_reducible apply z7))); (case h => kernel_rfl))))
        · rw [if_neg hge, reO, if_pos rfl]
          by_cases hmx0 : mx < 0
          · (repeat' (first | (simp -implicitDefEqProofs (maxSteps := 2000000) (disch := first | with_reducible assumption | omega | (simp only [zS, zA, seval, ww, wqf, wdb, wnb, zD] <;> omega) | fail) only [zS, argl, insA, Go.Den.wm, wo, wu, looks, wbb, wab, idOf, riA, seval, Go.Den.wh, kK, wz, ww, wdb, wnb, whd wyg, wye wyg, wcg, wqf, *, zT]) | (with_reducible (first | apply z1 | apply z2 | apply z3 | apply z4) <;> intro hq <;> (try simp only [zH] at hq) <;> (try (exfalso; omega))) | (with_reducible apply z5; (case hl => (repeat (first | exact .nil | with_reducible apply z6 | with_reducible apply z7))); (case h => kernel_rfl))))
          · have hnm2 : n < mx := by omega
            (repeat' (first | (simp -implicitDefEqProofs (maxSteps := 2000000) (disch := first | with_reducible assumption | omega | (simp only [zS, zA, seval, ww, wqf, wdb, wnb, zD] <;> omega) | fail) only [zS, argl, insA, Go.Den.wm, wo, wu, looks, wbb, wab, idOf, riA, seval, Go.Den.wh, kK, wz, ww, wdb, wnb, whd wyg, wye wyg, wcg, wqf, *, zT]) | (with_reducible (first | apply z1 | apply z2 | apply z3 | apply z4) <;> intro hq <;> (try simp only [zH] at hq) <;> (try (exfalso; omega))) | (with_reducible apply z5; (case hl => (repeat (first | exact .nil | with_reducible apply z6 | with_reducible apply z7))); (case h => kernel_rfl))))
      · rw [if_neg hbo] at hl
        have hadd := wdp bo [x] hbo (by simp) hlen
        rw [wgg, show [x].length = 1 from rfl] at hadd
        by_cases hge : n ≥ mn
        · rw [if_pos hge, reO, if_neg (wai (.inr (by simp)))]
          by_cases hmx0 : mx < 0
          · (repeat' (first | (simp -implicitDefEqProofs (maxSteps := 2000000) (disch := first | with_reducible assumption | omega | (simp only [zS, zA, seval, ww, wqf, wdb, wnb, zD] <;> omega) | fail) only [zS, argl, insA, Go.Den.wm, wo, wu, looks, wbb, wab, idOf, riA, seval, Go.Den.wh, kK, wz, ww, wdb, wnb, whd wyg, wye wyg, wcg, wqf, *, zT]) | (with_reducible (first | apply z1 | apply z2 | apply z3 | apply z4) <;> intro hq <;> (try simp only [zH] at hq) <;> (try (exfalso; omega))) | (with_reducible apply z5; (case hl => (repeat (first | exact .nil | with_reducible apply z6 | with_reducible apply z7))); (case h => kernel_rfl))))
          · have hnm2 : n < mx := by omega
            (repeat' (first | (simp -implicitDefEqProofs (maxSteps := 2000000) (disch := first | with_reducible assumption | omega | (simp only [zS, zA, seval, ww, wqf, wdb, wnb, zD] <;> omega) | fail) only [zS, argl, insA, Go.Den.wm, wo, wu, looks, wbb, wab, idOf, riA, seval, Go.Den.wh, kK, wz, ww, wdb, wnb, whd wyg, wye wyg, wcg, wqf, *, zT]) | (with_reducible (first | apply z1 | apply z2 | apply z3 | apply z4) <;> intro hq <;> (try simp only [zH] at hq) <;> (try (exfalso; omega))) | (with_reducible apply z5; (case hl => (repeat (first | exact .nil | with_reducible apply z6 | with_reducible apply z7))); (case h => kernel_rfl))))
        · rw [if_neg hge, reO, if_neg hbo]
          by_cases hmx0 : mx < 0
          · (repeat' (first | (simp -implicitDefEqProofs (maxSteps := 2000000) (disch := first | with_reducible assumption | omega | (simp only [zS, zA, seval, ww, wqf, wdb, wnb, zD] <;> omega) | fail) only [zS, argl, insA, Go.Den.wm, wo, wu, looks, wbb, wab, idOf, riA, seval, Go.Den.wh, kK, wz, ww, wdb, wnb, whd wyg, wye wyg, wcg, wqf, *, zT]) | (with_reducible (first | apply z1 | apply z2 | apply z3 | apply z4) <;> intro hq <;> (try simp only [zH] at hq) <;> (try (exfalso; omega))) | (with_reducible apply z5; (case hl => (repeat (first | exact .nil | with_reducible apply z6 | with_reducible apply z7))); (case h => kernel_rfl))))
          · have hnm2 : n < mx := by omega
            (repeat' (first | (simp -implicitDefEqProofs (maxSteps := 2000000) (disch := first | with_reducible assumption | omega | (simp only [zS, zA, seval, ww, wqf, wdb, wnb, zD] <;> omega) | fail) only [zS, argl, insA, Go.Den.wm, wo, wu, looks, wbb, wab, idOf, riA, seval, Go.Den.wh, kK, wz, ww, wdb, wnb, whd wyg, wye wyg, wcg, wqf, *, zT]) | (with_reducible (first | apply z1 | apply z2 | apply z3 | apply z4) <;> intro hq <;> (try simp only [zH] at hq) <;> (try (exfalso; omega))) | (with_reducible apply z5; (case hl => (repeat (first | exact .nil | with_reducible apply z6 | with_reducible apply z7))); (case h => kernel_rfl))))
    · have hb := wtbb (w := w) (k := k) (out := []) hm _ rfl
      rw [if_neg hnm] at hb
      simp only at hb
      rw [hb]
      have hmx0 : ¬ mx < 0 := fun h => hnm (.inl h)
      have hnm2 : ¬ n < mx := fun h => hnm (.inr h)
      have hadd := wzr [x] (by simp) (by simp) (by have := row_len ((RwS.nil (len := s.length) (a := a)).add (xs := [x]) (fun y hy => by rw [List.mem_singleton] at hy; subst hy; exact ⟨hx, hxa⟩)) hs; omega)
      rw [wgg, show [x].length = 1 from rfl] at hadd
      clear IH IHC k3 hw r1 r2 hb hnm
      by_cases hge : n ≥ mn
      · rw [if_pos hge, reO, if_neg (wai (.inr (by simp)))]
        (repeat' (first | (simp -implicitDefEqProofs (maxSteps := 2000000) (disch := first | with_reducible assumption | omega | (simp only [zS, zA, seval, ww, wqf, wdb, wnb, zD] <;> omega) | fail) only [zS, argl, insA, Go.Den.wm, wo, wu, looks, wbb, wab, idOf, riA, seval, Go.Den.wh, kK, wz, ww, wdb, wnb, whd wyg, wye wyg, wcg, wqf, *, zT]) | (with_reducible (first | apply z1 | apply z2 | apply z3 | apply z4) <;> intro hq <;> (try simp only [zH] at hq) <;> (try (exfalso; omega))) | (with_reducible apply z5; (case hl => (repeat (first | exact .nil | with_reducible apply z6 | with_reducible apply z7))); (case h => kernel_rfl))))
      · rw [if_neg hge, reO, if_pos rfl]
        (repeat' (first | (simp -implicitDefEqProofs (maxSteps := 2000000) (disch := first | with_reducible assumption | omega | (simp only [zS, zA, seval, ww, wqf, wdb, wnb, zD] <;> omega) | fail) only [zS, argl, insA, Go.Den.wm, wo, wu, looks, wbb, wab, idOf, riA, seval, Go.Den.wh, kK, wz, ww, wdb, wnb, whd wyg, wye wyg, wcg, wqf, *, zT]) | (with_reducible (first | apply z1 | apply z2 | apply z3 | apply z4) <;> intro hq <;> (try simp only [zH] at hq) <;> (try (exfalso; omega))) | (with_reducible apply z5; (case hl => (repeat (first | exact .nil | with_reducible apply z6 | with_reducible apply z7))); (case h => kernel_rfl))))
theorem on_all (hs : s.length ≤ 12) (hmn : 0 ≤ mn ∧ mn ≤ 20) (hmx : mx ≤ 20) (w : St → List St) (a : Int) (hk : KidOk s bol kids w) : ∀ k, OnC s bol mn mx nn set kids w a k ∧ OnN s bol mn mx nn set kids w a k := by
  intro k
  induction k with
  | zero => exact ⟨fun n x met out _ _ _ _ h => absurd h (Nat.not_lt_zero _), fun n x met _ _ _ _ h => absurd h (Nat.not_lt_zero _)⟩
  | succ k ih => exact ⟨ev_on_C s bol mn mx nn set kids hs hmn hmx w a hk k ih.1, ev_on_N s bol mn mx nn set kids hs hmn hmx w a hk k ih.1 ih.2⟩
end
end
end Go.Proofs.Ytgpabbbibmnnlaa
namespace Go.Proofs.Ytgpabbbibmnnlaa
set_option linter.unusedVariables false
set_option linter.unusedSimpArgs false
open Go.Den
noncomputable section
section
variable (s : List UInt8) (bol : Bool)
def grpF (n : Int) (x y : St) : St := (y.1, (y.2.put (n.toNat * 2) x.1).put (n.toNat * 2 + 1) y.1)
abbrev gfN (r : Rx) (x : St) : List ABlk := [X (rxC r) 47 0 true, X (stC x) 87 0 true, X [.slice none 0 0, .map (some 3)] 178 0 false, .map []]
abbrev gfC (r : Rx) (x : St) (out : List St) : List ABlk := [X (rxC r) 47 0 true, X (stC x) 87 0 true, X [FO 3 out.length (stsC out), .map (some 4)] 178 0 false, .tok out.length 87 9, .map (setK stC out)]
set_option maxHeartbeats 4000000 in
theorem wwac (hs : s.length ≤ 12) (r : Rx) (n1 : 1 ≤ r.n) (n3 : r.n ≤ 3) (x : St) (hx : GdS s.length x) (l : List St) (hll : l.length ≤ 16000000) (hl : ∀ y ∈ l, GdS s.length y ∧ x.1 ≤ y.1) :
    ∀ (j i : Nat) (out : List St), i + j = l.length → out ≠ [] → RwS s.length x.1 out →
    lim Try.prog cfg (.loop 75 0 (wub 0) (SE (EJ 158 G0) [(82, .int .i64 i), (81, .int .i64 l.length), (80, FL l.length (stsC l)), (8, .pointer (some ⟨2, 0, none⟩)), (5, .pointer (some ⟨1, 0, none⟩)), (4, .pointer (some ⟨0, 0, none⟩))])) (HP (gfC r x out)) = some (.code (.exit 1) (SE (EJ 158 G0) [(8, .pointer (some ⟨0, 0, none⟩))]), HP (rowC (wbs (fun y => [grpF r.n x y]) (l.drop i) out))) := by
  intro j
  induction j with
  | zero =>
    intro i out hi ho hr
    rw [List.drop_of_length_le (by omega)]
    refine wib wcf ?_
    unfold wbf
    clear hl
    (repeat' (first | (simp -implicitDefEqProofs (maxSteps := 2000000) (disch := first | with_reducible assumption | omega | (simp only [zS, zA, seval, ww, zD] <;> omega) | fail) only [zS, argl, insA, Go.Den.wm, wo, wu, looks, wbb, wab, idOf, riA, seval, Go.Den.wh, kK, wzd, ww, *, zT]) | (with_reducible (first | apply z1 | apply z2 | apply z3 | apply z4) <;> intro hq <;> (try simp only [zH] at hq) <;> (try (exfalso; omega)))))
    all_goals rfl
  | succ j ih =>
    intro i out hi ho hr
    rw [wrh l (by omega), wzs]
    have hy := hl (l.getD i St.zero) (by rw [List.getD_eq_getElem?_getD, List.getElem?_eq_getElem (by omega)]; exact List.getElem_mem _)
    have h3 : RwS s.length x.1 (addF out [grpF r.n x (l.getD i St.zero)]) := hr.add (fun z hz => by rw [List.mem_singleton] at hz; subst hz; exact ⟨hx.group hy.1 hy.2 n1 n3, hy.2⟩)
    have hadd := wdp out [grpF r.n x (l.getD i St.zero)] ho (by simp) (by have := row_len h3 hs; omega)
    have h2 := ih (i + 1) _ (by omega) (wai (.inl ho)) h3
    rw [wgg, show [grpF r.n x (l.getD i St.zero)].length = 1 from rfl, show stC (grpF r.n x (l.getD i St.zero)) = .int .i64 (l.getD i St.zero).1 :: mtC (((l.getD i St.zero).2.put (r.n.toNat * 2) x.1).put (r.n.toNat * 2 + 1) (l.getD i St.zero).1) from rfl] at hadd
    refine wib wcf ?_
    unfold wbf
    clear ih hl h3 hr hy
    (repeat' (first | (simp -implicitDefEqProofs (maxSteps := 2000000) (disch := first | with_reducible assumption | omega | (simp only [zS, zA, seval, ww, wdb, zD] <;> omega) | fail) only [zS, argl, insA, Go.Den.wm, wo, wu, looks, wbb, wab, idOf, riA, seval, Go.Den.wh, kK, wzd, ww, wdb, *, zT]) | (with_reducible (first | apply z1 | apply z2 | apply z3 | apply z4) <;> intro hq <;> (try simp only [zH] at hq) <;> (try (exfalso; omega)))))
    exact h2
set_option maxHeartbeats 4000000 in
theorem wxac (hs : s.length ≤ 12) (r : Rx) (n1 : 1 ≤ r.n) (n3 : r.n ≤ 3) (x : St) (hx : GdS s.length x) (l : List St) (hll : l.length ≤ 16000000) (hl : ∀ y ∈ l, GdS s.length y ∧ x.1 ≤ y.1) :
    lim Try.prog cfg (.loop 75 0 (wub 0) (SE (EJ 158 G0) [(82, .int .i64 0), (81, .int .i64 l.length), (80, FL l.length (stsC l)), (8, .pointer (some ⟨2, 0, none⟩)), (5, .pointer (some ⟨1, 0, none⟩)), (4, .pointer (some ⟨0, 0, none⟩))])) (HP (gfN r x)) = some (.code (.exit 1) (SE (EJ 158 G0) [(8, .pointer (some ⟨0, 0, none⟩))]), HP (rowO (wbs (fun y => [grpF r.n x y]) l []))) := by
  by_cases h0 : l = []
  · subst h0
    clear hl
    refine wib wcf ?_
    unfold wbf
    (repeat' (first | (simp -implicitDefEqProofs (maxSteps := 2000000) (disch := first | with_reducible assumption | omega | (simp only [zS, zA, seval, ww, zD] <;> omega) | fail) only [zS, argl, insA, Go.Den.wm, wo, wu, looks, wbb, wab, idOf, riA, seval, Go.Den.wh, kK, wzd, ww, *, zT]) | (with_reducible (first | apply z1 | apply z2 | apply z3 | apply z4) <;> intro hq <;> (try simp only [zH] at hq) <;> (try (exfalso; omega)))))
    all_goals rfl
  · have h00 : 0 < l.length := List.length_pos_iff.2 h0
    have hd := wrh l h00
    rw [List.drop_zero] at hd
    have hy := hl (l.getD 0 St.zero) (by rw [List.getD_eq_getElem?_getD, List.getElem?_eq_getElem (by omega)]; exact List.getElem_mem _)
    have h3 : RwS s.length x.1 (addF [] [grpF r.n x (l.getD 0 St.zero)]) := RwS.nil.add (fun z hz => by rw [List.mem_singleton] at hz; subst hz; exact ⟨hx.group hy.1 hy.2 n1 n3, hy.2⟩)
    have hadd := wzr [grpF r.n x (l.getD 0 St.zero)] (by simp) (by simp) (by have := row_len h3 hs; omega)
    have h2 := wwac s hs r n1 n3 x hx l hll hl (l.length - 1) 1 (addF [] [grpF r.n x (l.getD 0 St.zero)]) (by omega) (wai (.inr (by simp))) h3
    have he : wbs (fun y => [grpF r.n x y]) l [] = wbs (fun y => [grpF r.n x y]) (l.drop 1) (addF [] [grpF r.n x (l.getD 0 St.zero)]) := by
      conv => lhs; rw [hd]
      rfl
    rw [he, rowO, if_neg (wgmb _ _ _ (wai (.inr (by simp))))]
    rw [wgg, show [grpF r.n x (l.getD 0 St.zero)].length = 1 from rfl, show stC (grpF r.n x (l.getD 0 St.zero)) = .int .i64 (l.getD 0 St.zero).1 :: mtC (((l.getD 0 St.zero).2.put (r.n.toNat * 2) x.1).put (r.n.toNat * 2 + 1) (l.getD 0 St.zero).1) from rfl] at hadd
    have hg := wvr (l := l) (i := 0) h00
    rw [Nat.zero_mul] at hg
    refine wib wcf ?_
    unfold wbf
    clear hl h3 hy he hd
    (repeat' (first | (simp -implicitDefEqProofs (maxSteps := 2000000) (disch := first | with_reducible assumption | omega | (simp only [zS, zA, seval, ww, wdb, zD] <;> omega) | fail) only [zS, argl, insA, Go.Den.wm, wo, wu, looks, wbb, wab, idOf, riA, seval, Go.Den.wh, kK, wzd, ww, wdb, *, zT]) | (with_reducible (first | apply z1 | apply z2 | apply z3 | apply z4) <;> intro hq <;> (try simp only [zH] at hq) <;> (try (exfalso; omega)))))
    exact h2
def wqfb (kids : List Rx) : Prop := ∀ r ∈ kids, ∀ y, GdS s.length y → RwS s.length y.1 (wne s bol r y) ∧ lim Try.prog cfg (.call 75 [.agg ⟨[str s, .bool bol]⟩, .agg ⟨rxC r⟩, .agg ⟨stC y⟩]) (HP []) = some (.val (FL (wne s bol r y).length (stsC (wne s bol r y))), HP [])
theorem wubb (kids : List Rx) {i : Nat} (h : i < kids.length) : kids.drop i = kids.getD i Rx.zero :: kids.drop (i + 1) := by
  rw [List.drop_eq_getElem_cons h, List.getD_eq_getElem?_getD, List.getElem?_eq_getElem h]; rfl
theorem wyjb (kids : List Rx) {i : Nat} (h : i < kids.length) : kids.getD i Rx.zero ∈ kids := by
  rw [List.getD_eq_getElem?_getD, List.getElem?_eq_getElem h]; exact List.getElem_mem _
abbrev afN (x : St) : List ABlk := [X [str s, .bool bol] 138 0 true, X (stC x) 87 0 true, X [.slice none 0 0, .map (some 3)] 178 0 false, .map []]
abbrev afC (x : St) (out : List St) : List ABlk := [X [str s, .bool bol] 138 0 true, X (stC x) 87 0 true, X [FO 3 out.length (stsC out), .map (some 4)] 178 0 false, .tok out.length 87 9, .map (setK stC out)]
theorem altF_ne {x : St} : ∀ (l : List Rx) (out : List St), out ≠ [] → altF s bol l x out ≠ [] := by
  intro l
  induction l with
  | nil => intro out h; rw [altF]; exact h
  | cons r l ih => intro out h; rw [altF]; exact ih _ (wai (.inl h))
set_option maxHeartbeats 4000000 in
theorem wyac (hs : s.length ≤ 12) (x : St) (hx : GdS s.length x) (kids : List Rx) (hll : kids.length ≤ 16000000) (hk : wqfb s bol kids) :
    ∀ (j i : Nat) (out : List St), i + j = kids.length → out ≠ [] → RwS s.length x.1 out →
    lim Try.prog cfg (.loop 75 0 (wub 1) (SE (EJ 158 G0) [(110, .int .i64 i), (109, .int .i64 kids.length), (108, FL kids.length (rxsC kids)), (11, .pointer (some ⟨2, 0, none⟩)), (5, .pointer (some ⟨1, 0, none⟩)), (3, .pointer (some ⟨0, 0, none⟩))])) (HP (afC s bol x out)) = some (.code (.exit 3) (SE (EJ 158 G0) [(11, .pointer (some ⟨0, 0, none⟩))]), HP (rowC (altF s bol (kids.drop i) x out))) := by
  intro j
  induction j with
  | zero =>
    intro i out hi ho hr
    rw [List.drop_of_length_le (by omega), altF]
    refine wib wvd ?_
    unfold wxd
    clear hk
    (repeat' (first | (simp -implicitDefEqProofs (maxSteps := 2000000) (disch := first | with_reducible assumption | omega | (simp only [zS, zA, seval, ww, zD] <;> omega) | fail) only [zS, argl, insA, Go.Den.wm, wo, wu, looks, wbb, wab, idOf, riA, seval, Go.Den.wh, kK, wkd, ww, *, zT]) | (with_reducible (first | apply z1 | apply z2 | apply z3 | apply z4) <;> intro hq <;> (try simp only [zH] at hq) <;> (try (exfalso; omega)))))
  | succ j ih =>
    intro i out hi ho hr
    rw [wubb kids (by omega), altF]
    have ⟨h1, h4⟩ := hk _ (wyjb kids (show i < kids.length by omega)) x hx
    have h3 := hr.add h1.good
    have h5 := row_len h1 hs
    have hadd := wdp out (wne s bol (kids.getD i Rx.zero) x) ho (by omega) (by have := row_len h3 hs; omega)
    have h2 := ih (i + 1) _ (by omega) (wai (.inl ho)) h3
    refine wib wvd ?_
    unfold wxd
    clear ih hk h3 h1 hr
    (repeat' (first | (simp -implicitDefEqProofs (maxSteps := 2000000) (disch := first | with_reducible assumption | omega | (simp only [zS, zA, seval, ww, wdb, zD] <;> omega) | fail) only [zS, argl, insA, Go.Den.wm, wo, wu, looks, wbb, wab, idOf, riA, seval, Go.Den.wh, kK, wkd, ww, wdb, *, zT]) | (with_reducible (first | apply z1 | apply z2 | apply z3 | apply z4) <;> intro hq <;> (try simp only [zH] at hq) <;> (try (exfalso; omega)))))
    exact h2
set_option maxHeartbeats 4000000 in
theorem wzac (hs : s.length ≤ 12) (x : St) (hx : GdS s.length x) (kids : List Rx) (hll : kids.length ≤ 16000000) (hk : wqfb s bol kids) :
    ∀ (j i : Nat), i + j = kids.length →
    lim Try.prog cfg (.loop 75 0 (wub 1) (SE (EJ 158 G0) [(110, .int .i64 i), (109, .int .i64 kids.length), (108, FL kids.length (rxsC kids)), (11, .pointer (some ⟨2, 0, none⟩)), (5, .pointer (some ⟨1, 0, none⟩)), (3, .pointer (some ⟨0, 0, none⟩))])) (HP (afN s bol x)) = some (.code (.exit 3) (SE (EJ 158 G0) [(11, .pointer (some ⟨0, 0, none⟩))]), HP (rowO (altF s bol (kids.drop i) x []))) := by
  intro j
  induction j with
  | zero =>
    intro i hi
    rw [List.drop_of_length_le (by omega), altF]
    refine wib wvd ?_
    unfold wxd
    clear hk
    (repeat' (first | (simp -implicitDefEqProofs (maxSteps := 2000000) (disch := first | with_reducible assumption | omega | (simp only [zS, zA, seval, ww, zD] <;> omega) | fail) only [zS, argl, insA, Go.Den.wm, wo, wu, looks, wbb, wab, idOf, riA, seval, Go.Den.wh, kK, wkd, ww, *, zT]) | (with_reducible (first | apply z1 | apply z2 | apply z3 | apply z4) <;> intro hq <;> (try simp only [zH] at hq) <;> (try (exfalso; omega)))))
    all_goals rfl
  | succ j ih =>
    intro i hi
    rw [wubb kids (by omega), altF]
    have ⟨h1, h4⟩ := hk _ (wyjb kids (show i < kids.length by omega)) x hx
    have h3 := (RwS.nil (len := s.length) (a := x.1)).add h1.good
    have h5 := row_len h1 hs
    by_cases hz : wne s bol (kids.getD i Rx.zero) x = []
    · have h2 := ih (i + 1) (by omega)
      rw [hz] at h4 ⊢
      rw [List.length_nil, wobb] at h4
      refine wib wvd ?_
      unfold wxd
      clear ih hk h3 h1 h5 hz
      (repeat' (first | (simp -implicitDefEqProofs (maxSteps := 2000000) (disch := first | with_reducible assumption | omega | (simp only [zS, zA, seval, ww, wdb, zD] <;> omega) | fail) only [zS, argl, insA, Go.Den.wm, wo, wu, looks, wbb, wab, idOf, riA, seval, Go.Den.wh, kK, wkd, ww, wdb, wfmb, *, zT]) | (with_reducible (first | apply z1 | apply z2 | apply z3 | apply z4) <;> intro hq <;> (try simp only [zH] at hq) <;> (try (exfalso; omega)))))
      exact h2
    · have hadd := wzr (wne s bol (kids.getD i Rx.zero) x) hz (by omega) (by have := row_len h3 hs; omega)
      have h2 := wyac s bol hs x hx kids hll hk j (i + 1) (addF [] (wne s bol (kids.getD i Rx.zero) x)) (by omega) (wai (.inr hz)) h3
      rw [rowO, if_neg (altF_ne s bol _ _ (wai (.inr hz)))]
      refine wib wvd ?_
      unfold wxd
      clear ih hk h3 h1
      (repeat' (first | (simp -implicitDefEqProofs (maxSteps := 2000000) (disch := first | with_reducible assumption | omega | (simp only [zS, zA, seval, ww, wdb, zD] <;> omega) | fail) only [zS, argl, insA, Go.Den.wm, wo, wu, looks, wbb, wab, idOf, riA, seval, Go.Den.wh, kK, wkd, ww, wdb, *, zT]) | (with_reducible (first | apply z1 | apply z2 | apply z3 | apply z4) <;> intro hq <;> (try simp only [zH] at hq) <;> (try (exfalso; omega)))))
      exact h2
set_option maxHeartbeats 4000000 in
theorem cat_loop (hs : s.length ≤ 12) (a : Int) (kids : List Rx) (hll : kids.length ≤ 16000000) (hk : wqfb s bol kids) :
    ∀ (j i : Nat) (l : List St), i + j = kids.length → RwS s.length a l →
    lim Try.prog cfg (.loop 75 0 (wub 2) (SE (EJ 158 G0) [(130, .int .i64 i), (129, .int .i64 kids.length), (128, FL kids.length (rxsC kids)), (7, FL l.length (stsC l)), (3, .pointer (some ⟨0, 0, none⟩))])) (HP [X [str s, .bool bol] 138 0 true]) = some (.code (.exit 5) (SE (EJ 158 G0) [(7, FL (catF s bol (kids.drop i) l).length (stsC (catF s bol (kids.drop i) l)))]), HP []) := by
  intro j
  induction j with
  | zero =>
    intro i l hi hr
    rw [List.drop_of_length_le (by omega), catF]
    refine wib wef ?_
    unfold wdf
    clear hk
    (repeat' (first | (simp -implicitDefEqProofs (maxSteps := 2000000) (disch := first | with_reducible assumption | omega | (simp only [zS, zA, seval, ww, zD] <;> omega) | fail) only [zS, argl, insA, Go.Den.wm, wo, wu, looks, wbb, wab, idOf, riA, seval, Go.Den.wh, kK, wae, ww, *, zT]) | (with_reducible (first | apply z1 | apply z2 | apply z3 | apply z4) <;> intro hq <;> (try simp only [zH] at hq) <;> (try (exfalso; omega)))))
  | succ j ih =>
    intro i l hi hr
    rw [wubb kids (by omega), catF]
    have hw := hk _ (wyjb kids (show i < kids.length by omega))
    have hf := wsac s hs bol (kids.getD i Rx.zero) (fun y => wne s bol (kids.getD i Rx.zero) y) a l (by have := row_len hr hs; omega) hr.good hw
    have h3 : RwS s.length a (wqx (fun y => wne s bol (kids.getD i Rx.zero) y) l) := by
      refine RwS.fold _ l (fun z hz y hy => ?_) [] .nil
      have h1 := hr.good z hz
      have h2 := (hw z h1.1).1.good y hy
      exact ⟨h2.1, by omega⟩
    have h2 := ih (i + 1) _ (by omega) h3
    generalize wqx (fun y => wne s bol (kids.getD i Rx.zero) y) l = l2 at hf h2 ⊢
    refine wib wef ?_
    unfold wdf
    clear ih hk hw h3
    (repeat' (first | (simp -implicitDefEqProofs (maxSteps := 2000000) (disch := first | with_reducible assumption | omega | (simp only [zS, zA, seval, ww, wdb, zD] <;> omega) | fail) only [zS, argl, insA, Go.Den.wm, wo, wu, looks, wbb, wab, idOf, riA, seval, Go.Den.wh, kK, wae, ww, wdb, *, zT]) | (with_reducible (first | apply z1 | apply z2 | apply z3 | apply z4) <;> intro hq <;> (try simp only [zH] at hq) <;> (try (exfalso; omega)))))
    exact h2
end
end
end Go.Proofs.Ytgpabbbibmnnlaa
namespace Go.Proofs.Ytgpabbbibmnnlaa
set_option linter.unusedVariables false
set_option linter.unusedSimpArgs false
open Go.Den
noncomputable section
theorem wzjb (n : Int) (x : St) (l : List St) : groupW n x l = wbs (fun y => [grpF n x y]) l [] := rfl
section
variable (s : List UInt8) (bol : Bool)
def wabc (r : Rx) : Prop := ∀ y, GdS s.length y → lim Try.prog cfg (.call 75 [.agg ⟨[str s, .bool bol]⟩, .agg ⟨rxC r⟩, .agg ⟨stC y⟩]) (HP []) = some (.val (FL (wne s bol r y).length (stsC (wne s bol r y))), HP [])
set_option maxHeartbeats 8000000 in
theorem wbbc (hs : s.length ≤ 12) (k mn mx n : Int) (set : BitVec 256) (kids : List Rx) (hlen : kids.length ≤ 16000000) (hok : okR (.mk k mn mx n set kids) = true) (ih : wqfb s bol kids) : wabc s bol (.mk k mn mx n set kids) := by
  intro x hx
  have hlo := hx.lo
  have hhi := hx.hi
  have hrow := wyr (s := s) rfl (bol := bol) _ hok x hx
  refine wlb hc weq (Nat.le_of_ble_eq_true rfl) (Nat.le_of_ble_eq_true rfl) ?_
  unfold wzm
  rw [wne] at hrow ⊢
  rw [okR, Bool.and_eq_true] at hok
  have hok1 := hok.1
  clear hok
  by_cases h1 : k = 1
  · rw [if_pos h1]
    subst h1
    clear ih hrow hok1
    by_cases hx1 : x.1 < s.length
    · have hhas := ev_Has set ((s.getD x.1.toNat 0).toNat) (by have := (s.getD x.1.toNat 0).toNat_lt; omega)
      by_cases hb : set.getLsbD (s.getD x.1.toNat 0).toNat = true
      · rw [if_pos ⟨hx1, hb⟩]
        rw [hb] at hhas
        (repeat' (first | (simp -implicitDefEqProofs (maxSteps := 2000000) (disch := first | with_reducible assumption | omega | (simp only [zS, zA, seval, wfe, zD] <;> omega) | fail) only [zS, argl, insA, Go.Den.wm, wo, wu, looks, wbb, wab, idOf, riA, seval, Go.Den.wh, kK, *, zT]) | (with_reducible (first | apply z1 | apply z2 | apply z3 | apply z4) <;> intro hq <;> (try simp only [zH] at hq) <;> (try (exfalso; omega))) | (with_reducible apply z5; (case hl => (repeat (first | exact .nil | with_reducible apply z6 | with_reducible apply z7))); (case h => kernel_rfl))))
      · rw [if_neg (fun h => hb h.2)]
        have hb2 : set.getLsbD (s.getD x.1.toNat 0).toNat = false := by simpa using hb
        rw [hb2] at hhas
        clear hb
        (repeat' (first | (simp -implicitDefEqProofs (maxSteps := 2000000) (disch := first | with_reducible assumption | omega | (simp only [zS, zA, seval, zD] <;> omega) | fail) only [zS, argl, insA, Go.Den.wm, wo, wu, looks, wbb, wab, idOf, riA, seval, Go.Den.wh, kK, *, zT]) | (with_reducible (first | apply z1 | apply z2 | apply z3 | apply z4) <;> intro hq <;> (try simp only [zH] at hq) <;> (try (exfalso; omega))) | (with_reducible apply z5; (case hl => (repeat (first | exact .nil | with_reducible apply z6 | with_reducible apply z7))); (case h => kernel_rfl))))
    · rw [if_neg (fun h => hx1 h.1)]
      (repeat' (first | (simp -implicitDefEqProofs (maxSteps := 2000000) (disch := first | with_reducible assumption | omega | (simp only [zS, zA, seval, zD] <;> omega) | fail) only [zS, argl, insA, Go.Den.wm, wo, wu, looks, wbb, wab, idOf, riA, seval, Go.Den.wh, kK, *, zT]) | (with_reducible (first | apply z1 | apply z2 | apply z3 | apply z4) <;> intro hq <;> (try simp only [zH] at hq) <;> (try (exfalso; omega))) | (with_reducible apply z5; (case hl => (repeat (first | exact .nil | with_reducible apply z6 | with_reducible apply z7))); (case h => kernel_rfl))))
  rw [if_neg h1] at hrow ⊢
  by_cases h7 : k = 7
  · rw [if_pos h7]
    subst h7
    clear ih hrow hok1
    by_cases hx1 : x.1 = 0
    · cases bol with
      | true =>
        rw [if_pos ⟨hx1, rfl⟩]
        (repeat' (first | (simp -implicitDefEqProofs (maxSteps := 2000000) (disch := first | with_reducible assumption | omega | (simp only [zS, zA, seval, st_fz, zD] <;> omega) | fail) only [zS, argl, insA, Go.Den.wm, wo, wu, looks, wbb, wab, idOf, riA, seval, Go.Den.wh, kK, ww, *, zT]) | (with_reducible (first | apply z1 | apply z2 | apply z3 | apply z4) <;> intro hq <;> (try simp only [zH] at hq) <;> (try (exfalso; omega))) | (with_reducible apply z5; (case hl => (repeat (first | exact .nil | with_reducible apply z6 | with_reducible apply z7))); (case h => kernel_rfl))))
      | false =>
        rw [if_neg (fun h => by cases h.2)]
        (repeat' (first | (simp -implicitDefEqProofs (maxSteps := 2000000) (disch := first | with_reducible assumption | omega | (simp only [zS, zA, seval, zD] <;> omega) | fail) only [zS, argl, insA, Go.Den.wm, wo, wu, looks, wbb, wab, idOf, riA, seval, Go.Den.wh, kK, *, zT]) | (with_reducible (first | apply z1 | apply z2 | apply z3 | apply z4) <;> intro hq <;> (try simp only [zH] at hq) <;> (try (exfalso; omega))) | (with_reducible apply z5; (case hl => (repeat (first | exact .nil | with_reducible apply z6 | with_reducible apply z7))); (case h => kernel_rfl))))
    · rw [if_neg (fun h => hx1 h.1)]
      (repeat' (first | (simp -implicitDefEqProofs (maxSteps := 2000000) (disch := first | with_reducible assumption | omega | (simp only [zS, zA, seval, zD] <;> omega) | fail) only [zS, argl, insA, Go.Den.wm, wo, wu, looks, wbb, wab, idOf, riA, seval, Go.Den.wh, kK, *, zT]) | (with_reducible (first | apply z1 | apply z2 | apply z3 | apply z4) <;> intro hq <;> (try simp only [zH] at hq) <;> (try (exfalso; omega))) | (with_reducible apply z5; (case hl => (repeat (first | exact .nil | with_reducible apply z6 | with_reducible apply z7))); (case h => kernel_rfl))))
  rw [if_neg h7] at hrow ⊢
  by_cases h8 : k = 8
  · rw [if_pos h8]
    subst h8
    clear ih hrow hok1
    by_cases hx1 : x.1 = s.length
    · rw [if_pos hx1]
      (repeat' (first | (simp -implicitDefEqProofs (maxSteps := 2000000) (disch := first | with_reducible assumption | omega | (simp only [zS, zA, seval, st_fz, zD] <;> omega) | fail) only [zS, argl, insA, Go.Den.wm, wo, wu, looks, wbb, wab, idOf, riA, seval, Go.Den.wh, kK, *, zT]) | (with_reducible (first | apply z1 | apply z2 | apply z3 | apply z4) <;> intro hq <;> (try simp only [zH] at hq) <;> (try (exfalso; omega))) | (with_reducible apply z5; (case hl => (repeat (first | exact .nil | with_reducible apply z6 | with_reducible apply z7))); (case h => kernel_rfl))))
    · rw [if_neg hx1]
      (repeat' (first | (simp -implicitDefEqProofs (maxSteps := 2000000) (disch := first | with_reducible assumption | omega | (simp only [zS, zA, seval, zD] <;> omega) | fail) only [zS, argl, insA, Go.Den.wm, wo, wu, looks, wbb, wab, idOf, riA, seval, Go.Den.wh, kK, *, zT]) | (with_reducible (first | apply z1 | apply z2 | apply z3 | apply z4) <;> intro hq <;> (try simp only [zH] at hq) <;> (try (exfalso; omega))) | (with_reducible apply z5; (case hl => (repeat (first | exact .nil | with_reducible apply z6 | with_reducible apply z7))); (case h => kernel_rfl))))
  rw [if_neg h8] at hrow ⊢
  by_cases h6 : k = 6
  · rw [if_pos h6]
    rw [if_neg (by omega), if_neg (by omega), if_pos h6] at hok1
    simp only [Bool.and_eq_true, decide_eq_true_eq] at hok1
    subst h6
    clear ih hrow
    have hb := ev_back s (by omega) bol n hok1.1 hok1.2 x hx
    (repeat' (first | (simp -implicitDefEqProofs (maxSteps := 2000000) (disch := first | with_reducible assumption | omega | (simp only [zS, zA, seval, zD] <;> omega) | fail) only [zS, argl, insA, Go.Den.wm, wo, wu, looks, wbb, wab, idOf, riA, seval, Go.Den.wh, kK, *, zT]) | (with_reducible (first | apply z1 | apply z2 | apply z3 | apply z4) <;> intro hq <;> (try simp only [zH] at hq) <;> (try (exfalso; omega))) | (with_reducible apply z5; (case hl => (repeat (first | exact .nil | with_reducible apply z6 | with_reducible apply z7))); (case h => kernel_rfl))))
  rw [if_neg h6] at hrow ⊢
  by_cases h5 : k = 5
  · rw [if_pos h5] at hrow ⊢
    rw [if_pos h5] at hok1
    simp only [Bool.and_eq_true, decide_eq_true_eq] at hok1
    subst h5
    cases kids with
    | nil => exact absurd rfl hok1.1
    | cons kid rest =>
      rw [kidF, wzjb]
      have ⟨r1, r2⟩ := ih kid (List.mem_cons_self ..) x hx
      have r3 := row_len r1 hs
      have hl := wxac s hs (.mk 5 mn mx n set (kid :: rest)) hok1.2.1 hok1.2.2 x hx (wne s bol kid x) (by omega) r1.good
      have hk : slotsOf (rxsC (kid :: rest)) 0 9 = rxC kid := by
        have := wwr (l := kid :: rest) (i := 0) (by simp)
        rwa [Nat.zero_mul] at this
      rw [rx_n] at hl
      clear ih r1 hrow
      generalize wbs (fun y => [grpF n x y]) (wne s bol kid x) [] = out at hl ⊢
      by_cases ho : out = []
      · subst ho
        rw [rowO, if_pos rfl] at hl
        (repeat' (first | (simp -implicitDefEqProofs (maxSteps := 2000000) (disch := first | with_reducible assumption | omega | (simp only [zS, zA, seval, ww, wdb, zD] <;> omega) | fail) only [zS, argl, insA, Go.Den.wm, wo, wu, looks, wbb, wab, idOf, riA, seval, Go.Den.wh, kK, wzd, ww, wdb, wij, *, zT]) | (with_reducible (first | apply z1 | apply z2 | apply z3 | apply z4) <;> intro hq <;> (try simp only [zH] at hq) <;> (try (exfalso; omega))) | (with_reducible apply z5; (case hl => (repeat (first | exact .nil | with_reducible apply z6 | with_reducible apply z7))); (case h => kernel_rfl))))
      · rw [rowO, if_neg ho] at hl
        (repeat' (first | (simp -implicitDefEqProofs (maxSteps := 2000000) (disch := first | with_reducible assumption | omega | (simp only [zS, zA, seval, ww, wdb, zD] <;> omega) | fail) only [zS, argl, insA, Go.Den.wm, wo, wu, looks, wbb, wab, idOf, riA, seval, Go.Den.wh, kK, wzd, ww, wdb, wij, *, zT]) | (with_reducible (first | apply z1 | apply z2 | apply z3 | apply z4) <;> intro hq <;> (try simp only [zH] at hq) <;> (try (exfalso; omega))) | (with_reducible apply z5; (case hl => (repeat (first | exact .nil | with_reducible apply z6 | with_reducible apply z7))); (case h => kernel_rfl))))
  rw [if_neg h5] at hrow ⊢
  by_cases h3 : k = 3
  · rw [if_pos h3]
    subst h3
    have hl := wzac s bol hs x hx kids hlen ih kids.length 0 (by omega)
    rw [List.drop_zero, show ((0 : Nat) : Int) = 0 from rfl] at hl
    clear ih hrow hok1
    generalize altF s bol kids x [] = out at hl ⊢
    by_cases ho : out = []
    · subst ho
      rw [rowO, if_pos rfl] at hl
      (repeat' (first | (simp -implicitDefEqProofs (maxSteps := 2000000) (disch := first | with_reducible assumption | omega | (simp only [zS, zA, seval, ww, wdb, zD] <;> omega) | fail) only [zS, argl, insA, Go.Den.wm, wo, wu, looks, wbb, wab, idOf, riA, seval, Go.Den.wh, kK, wkd, ww, wdb, wij, *, zT]) | (with_reducible (first | apply z1 | apply z2 | apply z3 | apply z4) <;> intro hq <;> (try simp only [zH] at hq) <;> (try (exfalso; omega))) | (with_reducible apply z5; (case hl => (repeat (first | exact .nil | with_reducible apply z6 | with_reducible apply z7))); (case h => kernel_rfl))))
    · rw [rowO, if_neg ho] at hl
      (repeat' (first | (simp -implicitDefEqProofs (maxSteps := 2000000) (disch := first | with_reducible assumption | omega | (simp only [zS, zA, seval, ww, wdb, zD] <;> omega) | fail) only [zS, argl, insA, Go.Den.wm, wo, wu, looks, wbb, wab, idOf, riA, seval, Go.Den.wh, kK, wkd, ww, wdb, wij, *, zT]) | (with_reducible (first | apply z1 | apply z2 | apply z3 | apply z4) <;> intro hq <;> (try simp only [zH] at hq) <;> (try (exfalso; omega))) | (with_reducible apply z5; (case hl => (repeat (first | exact .nil | with_reducible apply z6 | with_reducible apply z7))); (case h => kernel_rfl))))
  rw [if_neg h3] at hrow ⊢
  by_cases h2 : k = 2
  · rw [if_pos h2]
    subst h2
    cases kids with
    | nil =>
      rw [catF]
      have hl : lim Try.prog cfg (.loop 75 0 (wub 2) (SE (EJ 158 G0) [(130, .int .i64 0), (129, .int .i64 0), (128, FL 0 []), (7, .slice (some ⟨1, 0, none⟩) 1 2), (3, .pointer (some ⟨0, 0, none⟩))])) (HP [X [str s, .bool bol] 138 0 true, X (stC x) 87 0 true]) = some (.code (.exit 5) (SE (EJ 158 G0) [(7, .slice (some ⟨0, 0, none⟩) 1 2)]), HP [X (stC x) 87 0 true]) := by
        refine wib wef ?_
        unfold wdf
        clear ih hrow
        (repeat' (first | (simp -implicitDefEqProofs (maxSteps := 2000000) (disch := first | with_reducible assumption | omega | (simp only [zS, zA, seval, zD] <;> omega) | fail) only [zS, argl, insA, Go.Den.wm, wo, wu, looks, wbb, wab, idOf, riA, seval, Go.Den.wh, kK, wae, *, zT]) | (with_reducible (first | apply z1 | apply z2 | apply z3 | apply z4) <;> intro hq <;> (try simp only [zH] at hq) <;> (try (exfalso; omega))) | (with_reducible apply z5; (case hl => (repeat (first | exact .nil | with_reducible apply z6 | with_reducible apply z7))); (case h => kernel_rfl))))
      clear ih hrow hok1
      (repeat' (first | (simp -implicitDefEqProofs (maxSteps := 2000000) (disch := first | with_reducible assumption | omega | (simp only [zS, zA, seval, zD] <;> omega) | fail) only [zS, argl, insA, Go.Den.wm, wo, wu, looks, wbb, wab, idOf, riA, seval, Go.Den.wh, kK, wae, rxsC, Int.natCast_zero, *, zT]) | (with_reducible (first | apply z1 | apply z2 | apply z3 | apply z4) <;> intro hq <;> (try simp only [zH] at hq) <;> (try (exfalso; omega))) | (with_reducible apply z5; (case hl => (repeat (first | exact .nil | with_reducible apply z6 | with_reducible apply z7))); (case h => kernel_rfl))))
    | cons kid rest =>
      rw [catF]
      have hw := ih kid (List.mem_cons_self ..)
      have hf := wsac s hs bol kid (fun y => wne s bol kid y) x.1 [x] (by simp) (fun y hy => by rw [List.mem_singleton] at hy; subst hy; exact ⟨hx, Int.le_refl _⟩) hw
      have hr : RwS s.length x.1 (wqx (fun y => wne s bol kid y) [x]) := by
        refine RwS.fold _ [x] (fun z hz y hy => ?_) [] .nil
        rw [List.mem_singleton] at hz
        subst hz
        exact (hw z hx).1.good y hy
      have hl := cat_loop s bol hs x.1 (kid :: rest) hlen ih rest.length 1 _ (by simp; omega) hr
      rw [show (kid :: rest).drop 1 = rest from rfl, show ((1 : Nat) : Int) = 1 from rfl] at hl
      rw [wgg, show [x].length = 1 from rfl] at hf
      have hk : slotsOf (rxsC (kid :: rest)) 0 9 = rxC kid := by
        have := wwr (l := kid :: rest) (i := 0) (by simp)
        rwa [Nat.zero_mul] at this
      have hkl : 0 < (kid :: rest).length := by simp
      have hkc : 9 ≤ (rxsC (kid :: rest)).length := by rw [wys, List.length_cons]; omega
      rw [List.length_cons] at hl
      generalize wqx (fun y => wne s bol kid y) [x] = l1 at hf hl ⊢
      have hl0 : lim Try.prog cfg (.loop 75 0 (wub 2) (SE (EJ 158 G0) [(130, .int .i64 0), (129, .int .i64 (rest.length + 1 : Nat)), (128, FL (rest.length + 1) (rxsC (kid :: rest))), (7, .slice (some ⟨1, 0, none⟩) 1 2), (3, .pointer (some ⟨0, 0, none⟩))])) (HP [X [str s, .bool bol] 138 0 true, X (stC x) 87 0 true]) = some (.code (.exit 5) (SE (EJ 158 G0) [(7, FL (catF s bol rest l1).length (stsC (catF s bol rest l1)))]), HP []) := by
        refine wib wef ?_
        unfold wdf
        clear ih hrow hw hok1
        generalize rxsC (kid :: rest) = KC at *
        (repeat' (first | (simp -implicitDefEqProofs (maxSteps := 2000000) (disch := first | with_reducible assumption | omega | (simp only [zS, zA, seval, zD] <;> omega) | fail) only [zS, argl, insA, Go.Den.wm, wo, wu, looks, wbb, wab, idOf, riA, seval, Go.Den.wh, kK, wae, *, zT]) | (with_reducible (first | apply z1 | apply z2 | apply z3 | apply z4) <;> intro hq <;> (try simp only [zH] at hq) <;> (try (exfalso; omega))) | (with_reducible apply z5; (case hl => (repeat (first | exact .nil | with_reducible apply z6 | with_reducible apply z7))); (case h => kernel_rfl))))
      clear ih hrow hok1 hw hl hf
      (repeat' (first | (simp -implicitDefEqProofs (maxSteps := 2000000) (disch := first | with_reducible assumption | omega | (simp only [zS, zA, seval, zD] <;> omega) | fail) only [zS, argl, insA, Go.Den.wm, wo, wu, looks, wbb, wab, idOf, riA, seval, Go.Den.wh, kK, wae, *, zT]) | (with_reducible (first | apply z1 | apply z2 | apply z3 | apply z4) <;> intro hq <;> (try simp only [zH] at hq) <;> (try (exfalso; omega))) | (with_reducible apply z5; (case hl => (repeat (first | exact .nil | with_reducible apply z6 | with_reducible apply z7))); (case h => kernel_rfl))))
  rw [if_neg h2] at hrow ⊢
  by_cases h4 : k = 4
  · rw [if_pos h4]
    rw [if_neg (by omega), if_pos h4] at hok1
    simp only [Bool.and_eq_true, decide_eq_true_eq] at hok1
    subst h4
    cases kids with
    | nil => exact absurd rfl hok1.1
    | cons kid rest =>
      have hw := ih kid (List.mem_cons_self ..)
      have hk : slotsOf (rxsC (kid :: rest)) 0 9 = rxC kid := by
        have := wwr (l := kid :: rest) (i := 0) (by simp)
        rwa [Nat.zero_mul] at this
      have hf : (fun y => kidF s bol (kid :: rest) y) = fun y => wne s bol kid y := by funext y; rw [kidF]
      rw [hf]
      have hon := (on_all s bol mn mx n set (kid :: rest) hs ⟨hok1.2.1, hok1.2.2.1⟩ hok1.2.2.2.2 (fun y => wne s bol kid y) x.1 ⟨kid, hk, by simp, hw⟩ 100).2 0 x [] (by omega) (by omega) hx (Int.le_refl _) (by unfold muF; split <;> omega)
      rcases hq : onF (fun y => wne s bol kid y) mn mx 100 0 x ([], []) with ⟨met, out⟩
      rw [hq] at hon
      clear ih hrow hw hk hf hq hok1
      by_cases ho : out = []
      · subst ho
        rw [reO, if_pos rfl] at hon
        simp only [reN, repB, wcmb, List.length_cons] at hon
        (repeat' (first | (simp -implicitDefEqProofs (maxSteps := 2000000) (disch := first | with_reducible assumption | omega | (simp only [zS, zA, seval, ww, wdb, wnb, zD] <;> omega) | fail) only [zS, argl, insA, Go.Den.wm, wo, wu, looks, wbb, wab, idOf, riA, seval, Go.Den.wh, kK, ww, wdb, wnb, wij, wrl, wqf, *, zT]) | (with_reducible (first | apply z1 | apply z2 | apply z3 | apply z4) <;> intro hq <;> (try simp only [zH] at hq) <;> (try (exfalso; omega))) | (with_reducible apply z5; (case hl => (repeat (first | exact .nil | with_reducible apply z6 | with_reducible apply z7))); (case h => kernel_rfl))))
      · rw [reO, if_neg ho] at hon
        simp only [reE, reN, repB, wcmb, List.length_cons] at hon
        (repeat' (first | (simp -implicitDefEqProofs (maxSteps := 2000000) (disch := first | with_reducible assumption | omega | (simp only [zS, zA, seval, ww, wdb, wnb, zD] <;> omega) | fail) only [zS, argl, insA, Go.Den.wm, wo, wu, looks, wbb, wab, idOf, riA, seval, Go.Den.wh, kK, ww, wdb, wnb, wij, wrl, wqf, *, zT]) | (with_reducible (first | apply z1 | apply z2 | apply z3 | apply z4) <;> intro hq <;> (try simp only [zH] at hq) <;> (try (exfalso; omega))) | (with_reducible apply z5; (case hl => (repeat (first | exact .nil | with_reducible apply z6 | with_reducible apply z7))); (case h => kernel_rfl))))
  rw [if_neg h4]
  clear ih hrow hok1
  (repeat' (first | (simp -implicitDefEqProofs (maxSteps := 2000000) (disch := first | with_reducible assumption | omega | (simp only [zS, zA, seval, zD] <;> omega) | fail) only [zS, argl, insA, Go.Den.wm, wo, wu, looks, wbb, wab, idOf, riA, seval, Go.Den.wh, kK, *, zT]) | (with_reducible (first | apply z1 | apply z2 | apply z3 | apply z4) <;> intro hq <;> (try simp only [zH] at hq) <;> (try (exfalso; omega))) | (with_reducible apply z5; (case hl => (repeat (first | exact .nil | with_reducible apply z6 | with_reducible apply z7))); (case h => kernel_rfl))))
end
end
end Go.Proofs.Ytgpabbbibmnnlaa
namespace Go.Proofs.Ytgpabbbibmnnlaa
set_option linter.unusedVariables false
set_option linter.unusedSimpArgs false
open Go.Den
noncomputable section
abbrev ints (l : List Int) : List Value := l.map (Value.int .i64)
theorem wcs {l : List Int} {i : Nat} (h : i < l.length) : (ints l)[i]? = some (.int .i64 (l.getD i 0)) := by
  rw [ints, List.getElem?_map, List.getD_eq_getElem?_getD, List.getElem?_eq_getElem h]; rfl
theorem wif {l : List Int} : (ints l).length = l.length := List.length_map ..
theorem int_drop (l : List Int) {i : Nat} (h : i < l.length) : l.drop i = l.getD i 0 :: l.drop (i + 1) := by
  rw [List.drop_eq_getElem_cons h, List.getD_eq_getElem?_getD, List.getElem?_eq_getElem h]; rfl
theorem wat (l : List Rx) {i : Nat} (h : i < l.length) : l.drop i = l.getD i Rx.zero :: l.drop (i + 1) := by
  rw [List.drop_eq_getElem_cons h, List.getD_eq_getElem?_getD, List.getElem?_eq_getElem h]; rfl
def fstF {α : Type} (p : α → Bool) : List α → Nat → Option Nat
  | [], _ => none
  | a :: l, i => if p a = true then some i else fstF p l (i + 1)
def fstV : Option Nat → Int
  | none => -1
  | some j => j
theorem wcbc {α : Type} (p : α → Bool) : ∀ (l : List α) (i : Nat), decide (0 ≤ fstV (fstF p l i)) = l.any p := by
  intro l
  induction l with
  | nil => intro i; rfl
  | cons a l ih =>
    intro i
    rw [fstF, List.any_cons]
    by_cases h : p a = true
    · rw [if_pos h, h]; simp [fstV]
    · rw [if_neg h, ih]; simp [h]
theorem wgb {P : Program} {cs : wdc} {R : Type} {K : KR R} {d : Option Tmp} {l : List RO} {e : Env} {H : AH} {wr : List Nat} {want : Bool} {x : ARes} : wqeb P cs K d l e H wr want x undef = opsR P cs K l (e.put d undef) H := by cases want <;> rfl
theorem wkb {want : Bool} : wvp want undef = some false := by cases want <;> rfl
theorem wbc : refs JK = [] := rfl
theorem wtc {m : Nm} : renV m JK = JK := rfl
theorem ej19 : (EJ 19 G0).get 4 = JK := rfl
def fstO (n : Nat) : Option Nat → Option (Out × AH)
  | none => some (.code (.exit 0) (SE (EJ n G0) [(4, JK)]), HP [])
  | some j => some (.code .ret (SE (EJ n G0) [(4, .int .i64 j)]), HP [])
theorem idx_loop (l : List Int) (hl : l.length ≤ 16000000) (v : Int) : ∀ (k i : Nat), i + k = l.length →
    lim Try.prog cfg (.loop 173 0 (wge 0) (SE (EJ 19 G0) [(8, .int .i64 i), (7, .int .i64 l.length), (1, .int .i64 v), (0, FL l.length (ints l))])) (HP []) = fstO 19 (fstF (fun a => decide (v = a)) (l.drop i) i) := by
  intro k
  induction k with
  | zero =>
    intro i hi
    rw [List.drop_of_length_le (by omega), fstF, fstO]
    refine wib wgd ?_
    unfold wbd
    (repeat' (first | (simp -implicitDefEqProofs (maxSteps := 2000000) (disch := first | with_reducible assumption | omega | (simp only [zS, zA, seval, wbc, wtc] <;> omega) | fail) only [zS, argl, insA, Go.Den.wm, wo, wu, looks, wbb, wab, idOf, riA, seval, Go.Den.wh, kK, woc, wif, wbc, wtc, ej19, *]) | (with_reducible (first | apply z1 | apply z2 | apply z3 | apply z4) <;> intro hq <;> (try simp only [zH] at hq) <;> (try (exfalso; omega)))))
  | succ k ih =>
    intro i hi
    rw [int_drop l (by omega), fstF]
    have h := ih (i + 1) (by omega)
    clear ih
    have hg := wcs (l := l) (i := i) (by omega)
    by_cases hv : v = l.getD i 0
    · rw [if_pos (by simpa using hv), fstO]
      clear h
      refine wib wgd ?_
      unfold wbd
      (repeat' (first | (simp -implicitDefEqProofs (maxSteps := 2000000) (disch := first | with_reducible assumption | omega | (simp only [zS, zA, seval, wbc, wtc] <;> omega) | fail) only [zS, argl, insA, Go.Den.wm, wo, wu, looks, wbb, wab, idOf, riA, seval, Go.Den.wh, kK, woc, wif, wbc, wtc, ej19, *]) | (with_reducible (first | apply z1 | apply z2 | apply z3 | apply z4) <;> intro hq <;> (try simp only [zH] at hq) <;> (try (exfalso; omega)))))
    · rw [if_neg (by simpa using hv)]
      generalize fstF (fun a => decide (v = a)) (l.drop (i + 1)) (i + 1) = o at h ⊢
      cases o with
      | none =>
        rw [fstO] at h ⊢
        refine wib wgd ?_
        unfold wbd
        (repeat' (first | (simp -implicitDefEqProofs (maxSteps := 2000000) (disch := first | with_reducible assumption | omega | (simp only [zS, zA, seval, wbc, wtc] <;> omega) | fail) only [zS, argl, insA, Go.Den.wm, wo, wu, looks, wbb, wab, idOf, riA, seval, Go.Den.wh, kK, woc, wif, wbc, wtc, ej19, *]) | (with_reducible (first | apply z1 | apply z2 | apply z3 | apply z4) <;> intro hq <;> (try simp only [zH] at hq) <;> (try (exfalso; omega)))))
        exact h
      | some j =>
        rw [fstO] at h ⊢
        refine wib wgd ?_
        unfold wbd
        (repeat' (first | (simp -implicitDefEqProofs (maxSteps := 2000000) (disch := first | with_reducible assumption | omega | (simp only [zS, zA, seval, wbc, wtc] <;> omega) | fail) only [zS, argl, insA, Go.Den.wm, wo, wu, looks, wbb, wab, idOf, riA, seval, Go.Den.wh, kK, woc, wif, wbc, wtc, ej19, *]) | (with_reducible (first | apply z1 | apply z2 | apply z3 | apply z4) <;> intro hq <;> (try simp only [zH] at hq) <;> (try (exfalso; omega)))))
        exact h
theorem ev_Index (l : List Int) (hl : l.length ≤ 16000000) (v : Int) : lim Try.prog cfg (.call 173 [FL l.length (ints l), .int .i64 v]) (HP []) = some (.val (.int .i64 (fstV (fstF (fun a => decide (v = a)) l 0))), HP []) := by
  refine wlb hc wpk (Nat.le_of_ble_eq_true rfl) (Nat.le_of_ble_eq_true rfl) ?_
  unfold wli
  have h := idx_loop l hl v l.length 0 (by omega)
  rw [List.drop_zero, show ((0 : Nat) : Int) = 0 from rfl] at h
  generalize fstF (fun a => decide (v = a)) l 0 = o at h ⊢
  rcases o with _ | j
  · rw [fstO] at h
    (repeat' (first | (simp -implicitDefEqProofs (maxSteps := 2000000) (disch := first | with_reducible assumption | omega | (simp only [zS, zA, seval, wbc, wtc] <;> omega) | fail) only [zS, argl, insA, Go.Den.wm, wo, wu, looks, wbb, wab, idOf, riA, seval, Go.Den.wh, kK, woc, wif, wbc, wtc, ej19, fstV, *]) | (with_reducible (first | apply z1 | apply z2 | apply z3 | apply z4) <;> intro hq <;> (try simp only [zH] at hq) <;> (try (exfalso; omega)))))
  · rw [fstO] at h
    (repeat' (first | (simp -implicitDefEqProofs (maxSteps := 2000000) (disch := first | with_reducible assumption | omega | (simp only [zS, zA, seval, wbc, wtc] <;> omega) | fail) only [zS, argl, insA, Go.Den.wm, wo, wu, looks, wbb, wab, idOf, riA, seval, Go.Den.wh, kK, woc, wif, wbc, wtc, ej19, fstV, *]) | (with_reducible (first | apply z1 | apply z2 | apply z3 | apply z4) <;> intro hq <;> (try simp only [zH] at hq) <;> (try (exfalso; omega)))))
theorem wakb (l : List Int) (hl : l.length ≤ 16000000) (v : Int) : lim Try.prog cfg (.call 165 [FL l.length (ints l), .int .i64 v]) (HP []) = some (.val (.bool (l.any fun a => decide (v = a))), HP []) := by
  refine wlb hc wnj (Nat.le_of_ble_eq_true rfl) (Nat.le_of_ble_eq_true rfl) ?_
  unfold wah
  have h := ev_Index l hl v
  rw [← wcbc _ l 0]
  generalize fstV (fstF (fun a => decide (v = a)) l 0) = z at h ⊢
  (repeat' (first | (simp -implicitDefEqProofs (maxSteps := 2000000) (disch := first | with_reducible assumption | omega | (simp only [zS, zA, seval] <;> omega) | fail) only [zS, argl, insA, Go.Den.wm, wo, wu, looks, wbb, wab, idOf, riA, seval, Go.Den.wh, kK, *]) | (with_reducible (first | apply z1 | apply z2 | apply z3 | apply z4) <;> intro hq <;> (try simp only [zH] at hq) <;> (try (exfalso; omega)))))
theorem ev_has1 (l : List Int) (hl : l.length ≤ 16000000) (r : Rx) : lim Try.prog cfg (.call 164 [.agg ⟨rxC r⟩, .pointer (some ⟨0, 0, none⟩)]) (HP [X [FL l.length (ints l)] 39 0 true]) = some (.val (.bool (l.any fun a => decide (r.kind = a))), HP [X [FL l.length (ints l)] 39 0 true]) := by
  refine wlb hc wpx (Nat.le_of_ble_eq_true rfl) (Nat.le_of_ble_eq_true rfl) ?_
  unfold wjw
  have h := wakb l hl r.kind
  (repeat' (first | (simp -implicitDefEqProofs (maxSteps := 2000000) (disch := first | with_reducible assumption | omega | (simp only [zS, zA, seval, zD] <;> omega) | fail) only [zS, argl, insA, Go.Den.wm, wo, wu, looks, wbb, wab, idOf, riA, seval, Go.Den.wh, kK, *, zT]) | (with_reducible (first | apply z1 | apply z2 | apply z3 | apply z4) <;> intro hq <;> (try simp only [zH] at hq) <;> (try (exfalso; omega)))))
end
end Go.Proofs.Ytgpabbbibmnnlaa
namespace Go.Proofs.Ytgpabbbibmnnlaa
set_option linter.unusedVariables false
set_option linter.unusedSimpArgs false
open Go.Den
noncomputable section
def wgi (l : List Int) (r : Rx) : Bool := l.any fun a => decide (r.kind = a)
abbrev hasFn : Value := .func (.func 164) ⟨[]⟩ ⟨[.pointer (some ⟨0, 0, none⟩)]⟩
abbrev hasB (l : List Int) : List ABlk := [X [FL l.length (ints l)] 39 0 true]
theorem hb_has1 : wul Try.prog 164 = true := by kernel_rfl
theorem wvbb {args : List Value} : dynA Try.prog hasFn args = .call 164 (args ++ [.pointer (some ⟨0, 0, none⟩)]) := by
  unfold dynA
  simp only [hb_has1, cond_true, List.nil_append]
theorem wbkb : cfg.know 164 = none := by kernel_rfl
def fstW (ks : List Int) (n : Nat) : Option Nat → Option (Out × AH)
  | none => some (.code (.exit 0) (SE (EJ n G0) [(4, JK)]), HP (hasB ks))
  | some j => some (.code .ret (SE (EJ n G0) [(4, .int .i64 j)]), HP (hasB ks))
theorem wdbc (ks : List Int) (hks : ks.length ≤ 16000000) (l : List Rx) (hl : l.length ≤ 16000000) : ∀ (k i : Nat), i + k = l.length →
    lim Try.prog cfg (.loop 172 1 (wsc 0) (SE (EJ 19 G0) [(8, .int .i64 i), (7, .int .i64 l.length), (1, hasFn), (0, FL l.length (rxsC l))])) (HP (hasB ks)) = fstW ks 19 (fstF (wgi ks) (l.drop i) i) := by
  intro k
  induction k with
  | zero =>
    intro i hi
    rw [List.drop_of_length_le (by omega), fstF, fstW]
    refine wib wgc ?_
    unfold wcc
    (repeat' (first | (simp -implicitDefEqProofs (maxSteps := 2000000) (disch := first | with_reducible assumption | omega | (simp only [zS, zA, seval, wbc, wtc, zD] <;> omega) | fail) only [zS, argl, insA, Go.Den.wm, wo, wu, looks, wbb, wab, idOf, riA, seval, Go.Den.wh, kK, wtb, wbc, wtc, ej19, *, zT]) | (with_reducible (first | apply z1 | apply z2 | apply z3 | apply z4) <;> intro hq <;> (try simp only [zH] at hq) <;> (try (exfalso; omega)))))
  | succ k ih =>
    intro i hi
    rw [wat l (by omega), fstF]
    have h := ih (i + 1) (by omega)
    clear ih
    have h1 := ev_has1 ks hks (l.getD i Rx.zero)
    by_cases hv : wgi ks (l.getD i Rx.zero) = true
    · rw [if_pos hv, fstW]
      unfold wgi at hv
      rw [hv] at h1
      clear h hv
      refine wib wgc ?_
      unfold wcc
      (repeat' (first | (simp -implicitDefEqProofs (maxSteps := 2000000) (disch := first | with_reducible assumption | omega | (simp only [zS, zA, seval, zD] <;> omega) | fail) only [zS, argl, insA, Go.Den.wm, wo, wu, looks, wbb, wab, idOf, riA, seval, Go.Den.wh, kK, wtb, wvbb, wbkb, *, zT]) | (with_reducible (first | apply z1 | apply z2 | apply z3 | apply z4) <;> intro hq <;> (try simp only [zH] at hq) <;> (try (exfalso; omega)))))
    · rw [if_neg hv]
      have hv2 : (ks.any fun a => decide ((l.getD i Rx.zero).kind = a)) = false := by show wgi ks _ = false; exact Bool.eq_false_iff.2 hv
      rw [hv2] at h1
      generalize fstF (wgi ks) (l.drop (i + 1)) (i + 1) = o at h ⊢
      clear hv hv2
      cases o with
      | none =>
        rw [fstW] at h ⊢
        refine wib wgc ?_
        unfold wcc
        (repeat' (first | (simp -implicitDefEqProofs (maxSteps := 2000000) (disch := first | with_reducible assumption | omega | (simp only [zS, zA, seval, wbc, wtc, zD] <;> omega) | fail) only [zS, argl, insA, Go.Den.wm, wo, wu, looks, wbb, wab, idOf, riA, seval, Go.Den.wh, kK, wtb, wvbb, wbkb, wbc, wtc, ej19, *, zT]) | (with_reducible (first | apply z1 | apply z2 | apply z3 | apply z4) <;> intro hq <;> (try simp only [zH] at hq) <;> (try (exfalso; omega)))))
        exact h
      | some j =>
        rw [fstW] at h ⊢
        refine wib wgc ?_
        unfold wcc
        (repeat' (first | (simp -implicitDefEqProofs (maxSteps := 2000000) (disch := first | with_reducible assumption | omega | (simp only [zS, zA, seval, wbc, wtc, zD] <;> omega) | fail) only [zS, argl, insA, Go.Den.wm, wo, wu, looks, wbb, wab, idOf, riA, seval, Go.Den.wh, kK, wtb, wvbb, wbkb, wbc, wtc, ej19, *, zT]) | (with_reducible (first | apply z1 | apply z2 | apply z3 | apply z4) <;> intro hq <;> (try simp only [zH] at hq) <;> (try (exfalso; omega)))))
        exact h
def webc (r : Rx) : Bool := !((decide (r.kind ≠ 1) && decide (r.set ≠ 0#256)) || (decide (r.kind ≠ 4) && (decide (r.mn ≠ 0) || decide (r.mx ≠ 0)))) && (decide (r.kind = 5) || (decide (r.kind = 6) || decide (r.n = 0)))
theorem wjmb : [Value.int .u64 0, .int .u64 0, .int .u64 0, .int .u64 0] = setC 0#256 := rfl
theorem ev_bare (r : Rx) : lim Try.prog cfg (.call 114 [.agg ⟨rxC r⟩]) (HP []) = some (.val (.bool (webc r)), HP []) := by
  refine wlb hc wlbb (Nat.le_of_ble_eq_true rfl) (Nat.le_of_ble_eq_true rfl) ?_
  unfold wyy webc
  have hz : ∀ a b, eqcV true [.int .u64, .int .u64, .int .u64, .int .u64] (.agg ⟨setC a⟩) (.agg ⟨setC b⟩) = val (.bool (decide (a ≠ b))) := wqzb
  (repeat' (first | (simp -implicitDefEqProofs (maxSteps := 2000000) (disch := first | with_reducible assumption | omega | (simp only [zS, zA, seval, zD] <;> omega) | fail) only [zS, argl, insA, Go.Den.wm, wo, wu, looks, wbb, wab, idOf, riA, seval, Go.Den.wh, kK, wjmb, wgb, wkb, *, zT]) | (with_reducible (first | apply z1 | apply z2 | apply z3 | apply z4) <;> intro hq <;> (try simp only [zH] at hq) <;> (try (exfalso; omega)))))
def repF (r : Rx) : Bool := decide (0 ≤ r.mn) && (decide (r.mn ≤ 20) && (decide (r.mx = -1) || (decide (max r.mn 1 ≤ r.mx) && decide (r.mx ≤ 20))))
theorem ev_rep (r : Rx) : lim Try.prog cfg (.call 145 [.agg ⟨rxC r⟩]) (HP []) = some (.val (.bool (repF r)), HP []) := by
  refine wlb hc wgfb (Nat.le_of_ble_eq_true rfl) (Nat.le_of_ble_eq_true rfl) ?_
  unfold wffb repF
  (repeat' (first | (simp -implicitDefEqProofs (maxSteps := 2000000) (disch := first | with_reducible assumption | omega | (simp only [zS, zA, seval, zD] <;> omega) | fail) only [zS, argl, insA, Go.Den.wm, wo, wu, looks, wbb, wab, idOf, riA, seval, Go.Den.wh, kK, wgb, wkb, *, zT]) | (with_reducible (first | apply z1 | apply z2 | apply z3 | apply z4) <;> intro hq <;> (try simp only [zH] at hq) <;> (try (exfalso; omega)))))
end
end Go.Proofs.Ytgpabbbibmnnlaa
namespace Go.Proofs.Ytgpabbbibmnnlaa
set_option linter.unusedVariables false
set_option linter.unusedSimpArgs false
open Go.Den
noncomputable section
theorem wrfb (ks : List Int) (hks : ks.length ≤ 16000000) (l : List Rx) (hl : l.length ≤ 16000000) : lim Try.prog cfg (.call 172 [FL l.length (rxsC l), hasFn]) (HP (hasB ks)) = some (.val (.int .i64 (fstV (fstF (wgi ks) l 0))), HP (hasB ks)) := by
  refine wlb hc wnh (Nat.le_of_ble_eq_true rfl) (Nat.le_of_ble_eq_true rfl) ?_
  unfold whf
  have h := wdbc ks hks l hl l.length 0 (by omega)
  rw [List.drop_zero, show ((0 : Nat) : Int) = 0 from rfl] at h
  generalize fstF (wgi ks) l 0 = o at h ⊢
  cases o with
  | none =>
    rw [fstW] at h
    (repeat' (first | (simp -implicitDefEqProofs (maxSteps := 2000000) (disch := first | with_reducible assumption | omega | (simp only [zS, zA, seval, wbc, wtc, zD] <;> omega) | fail) only [zS, argl, insA, Go.Den.wm, wo, wu, looks, wbb, wab, idOf, riA, seval, Go.Den.wh, kK, wtb, fstV, wbc, wtc, ej19, *, zT]) | (with_reducible (first | apply z1 | apply z2 | apply z3 | apply z4) <;> intro hq <;> (try simp only [zH] at hq) <;> (try (exfalso; omega)))))
  | some j =>
    rw [fstW] at h
    (repeat' (first | (simp -implicitDefEqProofs (maxSteps := 2000000) (disch := first | with_reducible assumption | omega | (simp only [zS, zA, seval, wbc, wtc, zD] <;> omega) | fail) only [zS, argl, insA, Go.Den.wm, wo, wu, looks, wbb, wab, idOf, riA, seval, Go.Den.wh, kK, wtb, fstV, wbc, wtc, ej19, *, zT]) | (with_reducible (first | apply z1 | apply z2 | apply z3 | apply z4) <;> intro hq <;> (try simp only [zH] at hq) <;> (try (exfalso; omega)))))
theorem wrw (ks : List Int) (hks : ks.length ≤ 16000000) (l : List Rx) (hl : l.length ≤ 16000000) : lim Try.prog cfg (.call 163 [FL l.length (rxsC l), hasFn]) (HP (hasB ks)) = some (.val (.bool (l.any (wgi ks))), HP (hasB ks)) := by
  refine wlb hc wqg (Nat.le_of_ble_eq_true rfl) (Nat.le_of_ble_eq_true rfl) ?_
  unfold wje
  have h := wrfb ks hks l hl
  rw [← wcbc _ l 0]
  generalize fstV (fstF (wgi ks) l 0) = z at h ⊢
  (repeat' (first | (simp -implicitDefEqProofs (maxSteps := 2000000) (disch := first | with_reducible assumption | omega | (simp only [zS, zA, seval, zD] <;> omega) | fail) only [zS, argl, insA, Go.Den.wm, wo, wu, looks, wbb, wab, idOf, riA, seval, Go.Den.wh, kK, *, zT]) | (with_reducible (first | apply z1 | apply z2 | apply z3 | apply z4) <;> intro hq <;> (try simp only [zH] at hq) <;> (try (exfalso; omega)))))
theorem wckb (ks : List Int) (hks : ks.length ≤ 16000000) (l : List Rx) (hl : l.length ≤ 16000000) : lim Try.prog cfg (.call 144 [FL l.length (rxsC l), FL ks.length (ints ks)]) (HP []) = some (.val (.bool (l.any (wgi ks))), HP []) := by
  refine wlb hc wefb (Nat.le_of_ble_eq_true rfl) (Nat.le_of_ble_eq_true rfl) ?_
  unfold wdfb
  have h := wrw ks hks l hl
  (repeat' (first | (simp -implicitDefEqProofs (maxSteps := 2000000) (disch := first | with_reducible assumption | omega | (simp only [zS, zA, seval, zD] <;> omega) | fail) only [zS, argl, insA, Go.Den.wm, wo, wu, looks, wbb, wab, idOf, riA, seval, Go.Den.wh, kK, *, zT]) | (with_reducible (first | apply z1 | apply z2 | apply z3 | apply z4) <;> intro hq <;> (try simp only [zH] at hq) <;> (try (exfalso; omega)))))
end
end Go.Proofs.Ytgpabbbibmnnlaa
namespace Go.Den
set_option linter.unusedVariables false
set_option linter.unusedSimpArgs false
noncomputable section
mutual
def wfc : Rx → Nat
  | .mk _ _ _ _ _ kids => 1 + wjb kids
def wjb : List Rx → Nat
  | [] => 0
  | r :: l => wfc r + wjb l
end
theorem wfbc (r : Rx) : 1 ≤ wfc r := by cases r; rw [wfc]; omega
theorem wsw : ∀ (l : List Rx), l.length ≤ wjb l := by
  intro l
  induction l with
  | nil => rw [wjb]; exact Nat.le_refl _
  | cons r l ih => rw [wjb, List.length_cons]; have := wfbc r; omega
theorem whrb (l : List Rx) (i : Nat) : wjb (l.drop i) ≤ wjb l := by
  induction l generalizing i with
  | nil => rw [List.drop_nil]; exact Nat.le_refl _
  | cons a l ih =>
    cases i with
    | zero => rw [List.drop_zero]; exact Nat.le_refl _
    | succ i => rw [List.drop_succ_cons, wjb]; have := ih i; omega
end
end Go.Den
namespace Go.Proofs.Ytgpabbbibmnnlaa
open Go.Den
noncomputable section
def wbt (r : Rx) : Bool :=
  if r.kind = 1 then decide ((r.kids.length : Int) = 0) && decide (r.set ≠ 0#256)
  else if r.kind = 2 then decide ((r.kids.length : Int) ≠ 1) && !(r.kids.any (wgi [2, 3]))
  else if r.kind = 3 then decide ((2 : Int) ≤ r.kids.length) && !(r.kids.any (wgi [3]))
  else if r.kind = 4 then decide ((r.kids.length : Int) = 1) && (r.kids.any (wgi [1, 5, 6]) && repF r)
  else if r.kind = 5 then decide ((r.kids.length : Int) = 1)
  else if r.kind = 6 then decide ((r.kids.length : Int) = 0)
  else if r.kind = 7 then decide ((r.kids.length : Int) = 0)
  else if r.kind = 8 then decide ((r.kids.length : Int) = 0)
  else false
theorem ev_has2 (a b : Int) (l : List Rx) (hl : l.length ≤ 16000000) : lim Try.prog cfg (.call 144 [FL l.length (rxsC l), FL 2 [.int .i64 a, .int .i64 b]]) (HP []) = some (.val (.bool (l.any (wgi [a, b]))), HP []) := wckb [a, b] (by simp) l hl
theorem wgbc (a : Int) (l : List Rx) (hl : l.length ≤ 16000000) : lim Try.prog cfg (.call 144 [FL l.length (rxsC l), FL 1 [.int .i64 a]]) (HP []) = some (.val (.bool (l.any (wgi [a]))), HP []) := wckb [a] (by simp) l hl
theorem ev_has3 (a b c : Int) (l : List Rx) (hl : l.length ≤ 16000000) : lim Try.prog cfg (.call 144 [FL l.length (rxsC l), FL 3 [.int .i64 a, .int .i64 b, .int .i64 c]]) (HP []) = some (.val (.bool (l.any (wgi [a, b, c]))), HP []) := wckb [a, b, c] (by simp) l hl
theorem ev_kids (r : Rx) (hl : r.kids.length ≤ 16000000) : lim Try.prog cfg (.call 115 [.agg ⟨rxC r⟩]) (HP []) = some (.val (.bool (wbt r)), HP []) := by
  refine wlb hc wmbb (Nat.le_of_ble_eq_true rfl) (Nat.le_of_ble_eq_true rfl) ?_
  unfold wzy wbt
  have hz : ∀ a b, eqcV true [.int .u64, .int .u64, .int .u64, .int .u64] (.agg ⟨setC a⟩) (.agg ⟨setC b⟩) = val (.bool (decide (a ≠ b))) := wqzb
  have h2 := ev_has2 2 3 r.kids hl
  have h3 := wgbc 3 r.kids hl
  have h4 := ev_has3 1 5 6 r.kids hl
  have h5 := ev_rep r
  generalize r.kids.any (wgi [2, 3]) = b2 at h2 ⊢
  generalize r.kids.any (wgi [3]) = b3 at h3 ⊢
  generalize r.kids.any (wgi [1, 5, 6]) = b4 at h4 ⊢
  generalize repF r = b5 at h5 ⊢
  (repeat' (first | (simp -implicitDefEqProofs (maxSteps := 2000000) (disch := first | with_reducible assumption | omega | (simp only [zS, zA, seval, zD] <;> omega) | fail) only [zS, argl, insA, Go.Den.wm, wo, wu, looks, wbb, wab, idOf, riA, seval, Go.Den.wh, kK, wjmb, wgb, wkb, *, zT]) | (with_reducible (first | apply z1 | apply z2 | apply z3 | apply z4) <;> intro hq <;> (try simp only [zH] at hq) <;> (try (exfalso; omega)))))
  all_goals simp_all
theorem wirb (l : List Rx) (hl : l.length ≤ 16000000) (hn : wjb l ≤ 1000000) (hk : ∀ r ∈ l, lim Try.prog cfg (.call 74 [.agg ⟨rxC r⟩]) (HP []) = some (.val (.int .i64 (wfc r)), HP [])) :
    ∀ (k i : Nat) (a : Int), i + k = l.length → 0 ≤ a → a + wjb (l.drop i) ≤ 2000000 →
    lim Try.prog cfg (.loop 74 0 (wqm 0) (SE (EJ 19 G0) [(9, .int .i64 i), (8, .int .i64 l.length), (7, FL l.length (rxsC l)), (3, .int .i64 a)])) (HP []) = some (.code (.exit 0) (SE (EJ 19 G0) [(3, .int .i64 (a + wjb (l.drop i)))]), HP []) := by
  intro k
  induction k with
  | zero =>
    intro i a hi h1 h2
    rw [List.drop_of_length_le (by omega), wjb]
    refine wib wcn ?_
    unfold wrm
    clear hk
    (repeat' (first | (simp -implicitDefEqProofs (maxSteps := 2000000) (disch := first | with_reducible assumption | omega | (simp only [zS, zA, seval, zD] <;> omega) | fail) only [zS, argl, insA, Go.Den.wm, wo, wu, looks, wbb, wab, idOf, riA, seval, Go.Den.wh, kK, wwm, Int.natCast_zero, Int.add_zero, *, zT]) | (with_reducible (first | apply z1 | apply z2 | apply z3 | apply z4) <;> intro hq <;> (try simp only [zH] at hq) <;> (try (exfalso; omega)))))
  | succ k ih =>
    intro i a hi h1 h2
    rw [wat l (by omega), wjb]
    have hr := hk _ (by rw [List.getD_eq_getElem?_getD, List.getElem?_eq_getElem (show i < l.length by omega)]; exact List.getElem_mem _ : l.getD i Rx.zero ∈ l)
    have hb : wfc (l.getD i Rx.zero) + wjb (l.drop (i + 1)) ≤ wjb l := by
      have := whrb l i
      rw [wat l (by omega), wjb] at this
      exact this
    rw [wat l (by omega), wjb] at h2
    have h := ih (i + 1) (a + wfc (l.getD i Rx.zero)) (by omega) (by omega) (by omega)
    rw [show a + ((wfc (l.getD i Rx.zero) + wjb (l.drop (i + 1)) : Nat) : Int) = a + (wfc (l.getD i Rx.zero) : Int) + (wjb (l.drop (i + 1)) : Int) by omega]
    refine wib wcn ?_
    unfold wrm
    clear hk ih
    (repeat' (first | (simp -implicitDefEqProofs (maxSteps := 2000000) (disch := first | with_reducible assumption | omega | (simp only [zS, zA, seval, zD] <;> omega) | fail) only [zS, argl, insA, Go.Den.wm, wo, wu, looks, wbb, wab, idOf, riA, seval, Go.Den.wh, kK, wwm, *, zT]) | (with_reducible (first | apply z1 | apply z2 | apply z3 | apply z4) <;> intro hq <;> (try simp only [zH] at hq) <;> (try (exfalso; omega)))))
    exact h
theorem ev_Nodes : ∀ r : Rx, wfc r ≤ 1000000 → lim Try.prog cfg (.call 74 [.agg ⟨rxC r⟩]) (HP []) = some (.val (.int .i64 (wfc r)), HP []) := by
  refine Rx.rec (motive_1 := fun r => wfc r ≤ 1000000 → lim Try.prog cfg (.call 74 [.agg ⟨rxC r⟩]) (HP []) = some (.val (.int .i64 (wfc r)), HP [])) (motive_2 := fun l => wjb l ≤ 1000000 → ∀ r ∈ l, lim Try.prog cfg (.call 74 [.agg ⟨rxC r⟩]) (HP []) = some (.val (.int .i64 (wfc r)), HP [])) ?_ ?_ ?_
  · intro k mn mx n s l ih hn
    rw [wfc] at hn
    have hl := wsw l
    have h := wirb l (by omega) (by omega) (ih (by omega)) l.length 0 1 (by omega) (by omega) (by rw [List.drop_zero]; omega)
    rw [List.drop_zero, show ((0 : Nat) : Int) = 0 from rfl] at h
    rw [wfc, show ((1 + wjb l : Nat) : Int) = 1 + (wjb l : Int) by omega]
    refine wlb hc wnx (Nat.le_of_ble_eq_true rfl) (Nat.le_of_ble_eq_true rfl) ?_
    unfold whw
    clear ih
    (repeat' (first | (simp -implicitDefEqProofs (maxSteps := 2000000) (disch := first | with_reducible assumption | omega | (simp only [zS, zA, seval, zD] <;> omega) | fail) only [zS, argl, insA, Go.Den.wm, wo, wu, looks, wbb, wab, idOf, riA, seval, Go.Den.wh, kK, wwm, *, zT]) | (with_reducible (first | apply z1 | apply z2 | apply z3 | apply z4) <;> intro hq <;> (try simp only [zH] at hq) <;> (try (exfalso; omega)))))
  · intro _ r h; cases h
  · intro r l h1 h2 hn x hx
    rw [wjb] at hn
    rcases List.mem_cons.1 hx with rfl | hx
    · exact h1 (by omega)
    · exact h2 (by omega) x hx
theorem wbz (r : Rx) (g : Int) : lim Try.prog cfg (.call 96 [.pointer (some ⟨0, 0, none⟩), .agg ⟨rxC r⟩]) (HP [X [.bool true, .int .i64 g] 165 0 true]) = some (.val (.bool true), HP [X [.bool true, .int .i64 g] 165 0 true]) := by
  refine wlb hc wsm (Nat.le_of_ble_eq_true rfl) (Nat.le_of_ble_eq_true rfl) ?_
  unfold wsj
  (repeat' (first | (simp -implicitDefEqProofs (maxSteps := 2000000) (disch := first | with_reducible assumption | omega | (simp only [zS, zA, seval, zD] <;> omega) | fail) only [zS, argl, insA, Go.Den.wm, wo, wu, looks, wbb, wab, idOf, riA, seval, Go.Den.wh, kK, wgb, wkb, *, zT]) | (with_reducible (first | apply z1 | apply z2 | apply z3 | apply z4) <;> intro hq <;> (try simp only [zH] at hq) <;> (try (exfalso; omega)))))
end
end Go.Proofs.Ytgpabbbibmnnlaa
namespace Go.Proofs.Ytgpabbbibmnnlaa
set_option linter.unusedVariables false
set_option linter.unusedSimpArgs false
open Go.Den
noncomputable section
mutual
def wjj : Rx → Int → Int → Bool × Int
  | .mk k mn mx n s kids, d, g =>
    if webc (.mk k mn mx n s kids) = true then
      if wbt (.mk k mn mx n s kids) = true then
        if k = 5 then (if n = g + 1 then (if d + 1 ≤ 6 then wbh kids (d + 1) (g + 1) else (false, g + 1)) else (false, g + 1))
        else if k = 6 then (decide (1 ≤ n) && decide (n ≤ g), g)
        else wbh kids d g
      else (false, g)
    else (false, g)
def wbh : List Rx → Int → Int → Bool × Int
  | [], _, g => (true, g)
  | r :: l, d, g => if (wjj r d g).1 = true then wbh l d (wjj r d g).2 else (false, (wjj r d g).2)
end
theorem wwbb : ∀ (r : Rx) (d g : Int), g ≤ (wjj r d g).2 ∧ (wjj r d g).2 ≤ g + wfc r := by
  refine Rx.rec (motive_1 := fun r => ∀ (d g : Int), g ≤ (wjj r d g).2 ∧ (wjj r d g).2 ≤ g + wfc r) (motive_2 := fun l => ∀ (d g : Int), g ≤ (wbh l d g).2 ∧ (wbh l d g).2 ≤ g + wjb l) ?_ ?_ ?_
  · intro k mn mx n s l ih d g
    rw [wjj, wfc]
    have h1 := ih (d + 1) (g + 1)
    have h2 := ih d g
    repeat' split
    all_goals first | (constructor <;> simp <;> omega) | omega
  · intro d g; rw [wbh, wjb]; exact ⟨Int.le_refl _, by simp⟩
  · intro r l h1 h2 d g
    rw [wbh, wjb]
    have h3 := h1 d g
    have h4 := h2 d (wjj r d g).2
    split
    · omega
    · simp; omega
abbrev wkB (g : Int) : List ABlk := [X [.bool true, .int .i64 g] 165 0 true]
def wxbb (w : Bool × Int) : Option (Out × AH) := if w.1 = true then some (.code (.exit 1) (SE (EJ 89 G0) [(6, JK)]), HP (wkB w.2)) else some (.code .ret (SE (EJ 89 G0) [(6, .bool false)]), HP (wkB w.2))
theorem ej89 : (EJ 89 G0).get 6 = JK := rfl
def wcz (r : Rx) : Prop := ∀ d g : Int, 0 ≤ d → d ≤ 1000 → 0 ≤ g → g + wfc r ≤ 2000000 → lim Try.prog cfg (.call 97 [.pointer (some ⟨0, 0, none⟩), .agg ⟨rxC r⟩, .int .i64 d]) (HP (wkB g)) = some (.val (.bool (wjj r d g).1), HP (wkB (wjj r d g).2))
theorem wsfb (l : List Rx) (hl : l.length ≤ 16000000) (hk : ∀ r ∈ l, wcz r) (d : Int) (hd : 0 ≤ d) (hd2 : d ≤ 1000) :
    ∀ (k i : Nat) (g : Int), i + k = l.length → 0 ≤ g → g + wjb (l.drop i) ≤ 2000000 →
    lim Try.prog cfg (.loop 97 1 (wwg 0) (SE (EJ 89 G0) [(79, .int .i64 i), (78, .int .i64 l.length), (77, FL l.length (rxsC l)), (2, .int .i64 d), (0, .pointer (some ⟨0, 0, none⟩))])) (HP (wkB g)) = wxbb (wbh (l.drop i) d g) := by
  intro k
  induction k with
  | zero =>
    intro i g hi h1 h2
    rw [List.drop_of_length_le (by omega), wbh, wxbb, if_pos rfl]
    refine wib wse ?_
    unfold wre
    clear hk
    (repeat' (first | (simp -implicitDefEqProofs (maxSteps := 2000000) (disch := first | with_reducible assumption | omega | (simp only [zS, zA, seval, wbc, wtc, zD] <;> omega) | fail) only [zS, argl, insA, Go.Den.wm, wo, wu, looks, wbb, wab, idOf, riA, seval, Go.Den.wh, kK, wsb, wbc, wtc, ej89, *, zT]) | (with_reducible (first | apply z1 | apply z2 | apply z3 | apply z4) <;> intro hq <;> (try simp only [zH] at hq) <;> (try (exfalso; omega)))))
  | succ k ih =>
    intro i g hi h1 h2
    rw [wat l (by omega), wjb] at h2
    rw [wat l (by omega), wbh]
    have hr := hk _ (by rw [List.getD_eq_getElem?_getD, List.getElem?_eq_getElem (show i < l.length by omega)]; exact List.getElem_mem _ : l.getD i Rx.zero ∈ l) d g hd hd2 h1 (by omega)
    have hw := wwbb (l.getD i Rx.zero) d g
    have h := ih (i + 1) (wjj (l.getD i Rx.zero) d g).2 (by omega) (by omega) (by omega)
    generalize wjj (l.getD i Rx.zero) d g = w at hr hw h ⊢
    obtain ⟨b, g2⟩ := w
    clear hk ih
    cases b with
    | false =>
      rw [if_neg (by simp), wxbb, if_neg (by simp)]
      clear h
      refine wib wse ?_
      unfold wre
      (repeat' (first | (simp -implicitDefEqProofs (maxSteps := 2000000) (disch := first | with_reducible assumption | omega | (simp only [zS, zA, seval, zD] <;> omega) | fail) only [zS, argl, insA, Go.Den.wm, wo, wu, looks, wbb, wab, idOf, riA, seval, Go.Den.wh, kK, wsb, *, zT]) | (with_reducible (first | apply z1 | apply z2 | apply z3 | apply z4) <;> intro hq <;> (try simp only [zH] at hq) <;> (try (exfalso; omega)))))
    | true =>
      rw [if_pos rfl]
      generalize wbh (l.drop (i + 1)) d (true, g2).2 = w2 at h ⊢
      obtain ⟨b2, g3⟩ := w2
      cases b2 with
      | true =>
        rw [wxbb, if_pos rfl] at h ⊢
        refine wib wse ?_
        unfold wre
        (repeat' (first | (simp -implicitDefEqProofs (maxSteps := 2000000) (disch := first | with_reducible assumption | omega | (simp only [zS, zA, seval, wbc, wtc, zD] <;> omega) | fail) only [zS, argl, insA, Go.Den.wm, wo, wu, looks, wbb, wab, idOf, riA, seval, Go.Den.wh, kK, wsb, wbc, wtc, ej89, *, zT]) | (with_reducible (first | apply z1 | apply z2 | apply z3 | apply z4) <;> intro hq <;> (try simp only [zH] at hq) <;> (try (exfalso; omega)))))
        exact h
      | false =>
        rw [wxbb, if_neg (by simp)] at h ⊢
        refine wib wse ?_
        unfold wre
        (repeat' (first | (simp -implicitDefEqProofs (maxSteps := 2000000) (disch := first | with_reducible assumption | omega | (simp only [zS, zA, seval, wbc, wtc, zD] <;> omega) | fail) only [zS, argl, insA, Go.Den.wm, wo, wu, looks, wbb, wab, idOf, riA, seval, Go.Den.wh, kK, wsb, wbc, wtc, ej89, *, zT]) | (with_reducible (first | apply z1 | apply z2 | apply z3 | apply z4) <;> intro hq <;> (try simp only [zH] at hq) <;> (try (exfalso; omega)))))
        exact h
end
end Go.Proofs.Ytgpabbbibmnnlaa
namespace Go.Proofs.Ytgpabbbibmnnlaa
set_option linter.unusedVariables false
set_option linter.unusedSimpArgs false
open Go.Den
noncomputable section
set_option maxHeartbeats 4000000 in
theorem whbc (k mn mx n : Int) (set : BitVec 256) (kids : List Rx) (hl : kids.length ≤ 16000000) (ih : ∀ r ∈ kids, wcz r) : wcz (.mk k mn mx n set kids) := by
  intro d g hd hd2 hg hgn
  rw [wfc] at hgn
  have hb := ev_bare (.mk k mn mx n set kids)
  have hk := ev_kids (.mk k mn mx n set kids) hl
  rw [wjj]
  refine wlb hc whp (Nat.le_of_ble_eq_true rfl) (Nat.le_of_ble_eq_true rfl) ?_
  unfold wpl
  cases hbv : webc (.mk k mn mx n set kids) with
  | false =>
    rw [if_neg (by simp)]
    rw [hbv] at hb
    clear hk ih hbv
    (repeat' (first | (simp -implicitDefEqProofs (maxSteps := 2000000) (disch := first | with_reducible assumption | omega | (simp only [zS, zA, seval, zD] <;> omega) | fail) only [zS, argl, insA, Go.Den.wm, wo, wu, looks, wbb, wab, idOf, riA, seval, Go.Den.wh, kK, wsb, wgb, wkb, *, zT]) | (with_reducible (first | apply z1 | apply z2 | apply z3 | apply z4) <;> intro hq <;> (try simp only [zH] at hq) <;> (try (exfalso; omega))) | (with_reducible apply z5; (case hl => (repeat (first | exact .nil | with_reducible apply z6 | with_reducible apply z7))); (case h => kernel_rfl))))
  | true =>
  rw [if_pos rfl]
  rw [hbv] at hb
  clear hbv
  cases hkv : wbt (.mk k mn mx n set kids) with
  | false =>
    rw [if_neg (by simp)]
    rw [hkv] at hk
    clear ih hkv
    (repeat' (first | (simp -implicitDefEqProofs (maxSteps := 2000000) (disch := first | with_reducible assumption | omega | (simp only [zS, zA, seval, zD] <;> omega) | fail) only [zS, argl, insA, Go.Den.wm, wo, wu, looks, wbb, wab, idOf, riA, seval, Go.Den.wh, kK, wsb, wgb, wkb, *, zT]) | (with_reducible (first | apply z1 | apply z2 | apply z3 | apply z4) <;> intro hq <;> (try simp only [zH] at hq) <;> (try (exfalso; omega))) | (with_reducible apply z5; (case hl => (repeat (first | exact .nil | with_reducible apply z6 | with_reducible apply z7))); (case h => kernel_rfl))))
  | true =>
  rw [if_pos rfl]
  rw [hkv] at hk
  by_cases h5 : k = 5
  · subst h5
    rw [if_pos rfl]
    have hlen : kids.length = 1 := by
      have h3 : decide ((kids.length : Int) = 1) = true := hkv
      rw [decide_eq_true_eq] at h3
      omega
    have hs : slotsOf (rxsC kids) 0 9 = rxC (kids.getD 0 Rx.zero) := by
      have := wwr (l := kids) (i := 0) (by omega)
      rwa [Nat.zero_mul] at this
    have hcl : 9 ≤ (rxsC kids).length := by rw [wys, hlen]; omega
    have hz : 0 < kids.length := by omega
    have ha := wbz (kids.getD 0 Rx.zero) (g + 1)
    clear hkv hlen
    by_cases hn : n = g + 1
    · rw [if_pos hn]
      by_cases hd6 : d + 1 ≤ 6
      · rw [if_pos hd6]
        have h := wsfb kids hl ih (d + 1) (by omega) (by omega) kids.length 0 (g + 1) (by omega) (by omega) (by rw [List.drop_zero]; omega)
        rw [List.drop_zero, show ((0 : Nat) : Int) = 0 from rfl] at h
        generalize wbh kids (d + 1) (g + 1) = w at h ⊢
        obtain ⟨b, g2⟩ := w
        clear ih
        subst hn
        cases b with
        | true =>
          rw [wxbb, if_pos rfl] at h
          (repeat' (first | (simp -implicitDefEqProofs (maxSteps := 2000000) (disch := first | with_reducible assumption | omega | (simp only [zS, zA, seval, wbc, wtc, zD] <;> omega) | fail) only [zS, argl, insA, Go.Den.wm, wo, wu, looks, wbb, wab, idOf, riA, seval, Go.Den.wh, kK, wsb, wgb, wkb, wbc, wtc, ej89, *, zT]) | (with_reducible (first | apply z1 | apply z2 | apply z3 | apply z4) <;> intro hq <;> (try simp only [zH] at hq) <;> (try (exfalso; omega))) | (with_reducible apply z5; (case hl => (repeat (first | exact .nil | with_reducible apply z6 | with_reducible apply z7))); (case h => kernel_rfl))))
        | false =>
          rw [wxbb, if_neg (by simp)] at h
          (repeat' (first | (simp -implicitDefEqProofs (maxSteps := 2000000) (disch := first | with_reducible assumption | omega | (simp only [zS, zA, seval, wbc, wtc, zD] <;> omega) | fail) only [zS, argl, insA, Go.Den.wm, wo, wu, looks, wbb, wab, idOf, riA, seval, Go.Den.wh, kK, wsb, wgb, wkb, wbc, wtc, ej89, *, zT]) | (with_reducible (first | apply z1 | apply z2 | apply z3 | apply z4) <;> intro hq <;> (try simp only [zH] at hq) <;> (try (exfalso; omega))) | (with_reducible apply z5; (case hl => (repeat (first | exact .nil | with_reducible apply z6 | with_reducible apply z7))); (case h => kernel_rfl))))
      · rw [if_neg hd6]
        clear ih
        subst hn
        (repeat' (first | (simp -implicitDefEqProofs (maxSteps := 2000000) (disch := first | with_reducible assumption | omega | (simp only [zS, zA, seval, zD] <;> omega) | fail) only [zS, argl, insA, Go.Den.wm, wo, wu, looks, wbb, wab, idOf, riA, seval, Go.Den.wh, kK, wsb, wgb, wkb, *, zT]) | (with_reducible (first | apply z1 | apply z2 | apply z3 | apply z4) <;> intro hq <;> (try simp only [zH] at hq) <;> (try (exfalso; omega))) | (with_reducible apply z5; (case hl => (repeat (first | exact .nil | with_reducible apply z6 | with_reducible apply z7))); (case h => kernel_rfl))))
    · rw [if_neg hn]
      clear ih
      (repeat' (first | (simp -implicitDefEqProofs (maxSteps := 2000000) (disch := first | with_reducible assumption | omega | (simp only [zS, zA, seval, zD] <;> omega) | fail) only [zS, argl, insA, Go.Den.wm, wo, wu, looks, wbb, wab, idOf, riA, seval, Go.Den.wh, kK, wsb, wgb, wkb, *, zT]) | (with_reducible (first | apply z1 | apply z2 | apply z3 | apply z4) <;> intro hq <;> (try simp only [zH] at hq) <;> (try (exfalso; omega))) | (with_reducible apply z5; (case hl => (repeat (first | exact .nil | with_reducible apply z6 | with_reducible apply z7))); (case h => kernel_rfl))))
  rw [if_neg h5]
  clear hkv
  by_cases h6 : k = 6
  · subst h6
    rw [if_pos rfl]
    clear ih
    (repeat' (first | (simp -implicitDefEqProofs (maxSteps := 2000000) (disch := first | with_reducible assumption | omega | (simp only [zS, zA, seval, zD] <;> omega) | fail) only [zS, argl, insA, Go.Den.wm, wo, wu, looks, wbb, wab, idOf, riA, seval, Go.Den.wh, kK, wsb, wgb, wkb, *, zT]) | (with_reducible (first | apply z1 | apply z2 | apply z3 | apply z4) <;> intro hq <;> (try simp only [zH] at hq) <;> (try (exfalso; omega))) | (with_reducible apply z5; (case hl => (repeat (first | exact .nil | with_reducible apply z6 | with_reducible apply z7))); (case h => kernel_rfl))))
  rw [if_neg h6]
  have h := wsfb kids hl ih d (by omega) (by omega) kids.length 0 g (by omega) (by omega) (by rw [List.drop_zero]; omega)
  rw [List.drop_zero, show ((0 : Nat) : Int) = 0 from rfl] at h
  generalize wbh kids d g = w at h ⊢
  obtain ⟨b, g2⟩ := w
  clear ih
  cases b with
  | true =>
    rw [wxbb, if_pos rfl] at h
    (repeat' (first | (simp -implicitDefEqProofs (maxSteps := 2000000) (disch := first | with_reducible assumption | omega | (simp only [zS, zA, seval, wbc, wtc, zD] <;> omega) | fail) only [zS, argl, insA, Go.Den.wm, wo, wu, looks, wbb, wab, idOf, riA, seval, Go.Den.wh, kK, wsb, wgb, wkb, wbc, wtc, ej89, *, zT]) | (with_reducible (first | apply z1 | apply z2 | apply z3 | apply z4) <;> intro hq <;> (try simp only [zH] at hq) <;> (try (exfalso; omega))) | (with_reducible apply z5; (case hl => (repeat (first | exact .nil | with_reducible apply z6 | with_reducible apply z7))); (case h => kernel_rfl))))
  | false =>
    rw [wxbb, if_neg (by simp)] at h
    (repeat' (first | (simp -implicitDefEqProofs (maxSteps := 2000000) (disch := first | with_reducible assumption | omega | (simp only [zS, zA, seval, wbc, wtc, zD] <;> omega) | fail) only [zS, argl, insA, Go.Den.wm, wo, wu, looks, wbb, wab, idOf, riA, seval, Go.Den.wh, kK, wsb, wgb, wkb, wbc, wtc, ej89, *, zT]) | (with_reducible (first | apply z1 | apply z2 | apply z3 | apply z4) <;> intro hq <;> (try simp only [zH] at hq) <;> (try (exfalso; omega))) | (with_reducible apply z5; (case hl => (repeat (first | exact .nil | with_reducible apply z6 | with_reducible apply z7))); (case h => kernel_rfl))))
theorem ev_walk : ∀ r : Rx, wfc r ≤ 1000000 → wcz r := by
  refine Rx.rec (motive_1 := fun r => wfc r ≤ 1000000 → wcz r) (motive_2 := fun l => wjb l ≤ 1000000 → ∀ r ∈ l, wcz r) ?_ ?_ ?_
  · intro k mn mx n s l ih hn
    rw [wfc] at hn
    have hl := wsw l
    exact whbc k mn mx n s l (by omega) (ih (by omega))
  · intro _ r h; cases h
  · intro r l h1 h2 hn x hx
    rw [wjb] at hn
    rcases List.mem_cons.1 hx with rfl | hx
    · exact h1 (by omega)
    · exact h2 (by omega) x hx
def wnt (r : Rx) : Bool := decide (wfc r ≤ 40) && ((wjj r 0 0).1 && decide ((wjj r 0 0).2 ≤ 3))
theorem ev_Right (r : Rx) (hn : wfc r ≤ 1000000) : lim Try.prog cfg (.call 69 [.agg ⟨rxC r⟩, .bool true]) (HP []) = some (.val (.bool (wnt r)), HP []) := by
  have h1 := ev_Nodes r hn
  have h2 := wbz r 0
  have h3 := ev_walk r hn 0 0 (by omega) (by omega) (by omega) (by omega)
  unfold wnt
  generalize wjj r 0 0 = w at h3 ⊢
  obtain ⟨b, g⟩ := w
  refine wlb hc wmx (Nat.le_of_ble_eq_true rfl) (Nat.le_of_ble_eq_true rfl) ?_
  unfold wgw
  by_cases hq : wfc r ≤ 40
  · have hq2 : (wfc r : Int) ≤ 40 := by omega
    rw [decide_eq_true hq]
    cases b with
    | false => (repeat' (first | (simp -implicitDefEqProofs (maxSteps := 2000000) (disch := first | with_reducible assumption | omega | (simp only [zS, zA, seval, zD] <;> omega) | fail) only [zS, argl, insA, Go.Den.wm, wo, wu, looks, wbb, wab, idOf, riA, seval, Go.Den.wh, kK, wgb, wkb, *, zT]) | (with_reducible (first | apply z1 | apply z2 | apply z3 | apply z4) <;> intro hq <;> (try simp only [zH] at hq) <;> (try (exfalso; omega))))); all_goals trace_state
    | true => (repeat' (first | (simp -implicitDefEqProofs (maxSteps := 2000000) (disch := first | with_reducible assumption | omega | (simp only [zS, zA, seval, zD] <;> omega) | fail) only [zS, argl, insA, Go.Den.wm, wo, wu, looks, wbb, wab, idOf, riA, seval, Go.Den.wh, kK, wgb, wkb, *, zT]) | (with_reducible (first | apply z1 | apply z2 | apply z3 | apply z4) <;> intro hq <;> (try simp only [zH] at hq) <;> (try (exfalso; omega))))); all_goals trace_state
  · have hq2 : ¬ (wfc r : Int) ≤ 40 := by omega
    rw [decide_eq_false hq]
    (repeat' (first | (simp -implicitDefEqProofs (maxSteps := 2000000) (disch := first | with_reducible assumption | omega | (simp only [zS, zA, seval, zD] <;> omega) | fail) only [zS, argl, insA, Go.Den.wm, wo, wu, looks, wbb, wab, idOf, riA, seval, Go.Den.wh, kK, wgb, wkb, *, zT]) | (with_reducible (first | apply z1 | apply z2 | apply z3 | apply z4) <;> intro hq <;> (try simp only [zH] at hq) <;> (try (exfalso; omega)))))
end
end Go.Proofs.Ytgpabbbibmnnlaa
namespace Go.Proofs.Ytgpabbbibmnnlaa
set_option linter.unusedVariables false
set_option linter.unusedSimpArgs false
open Go.Den
noncomputable section
theorem wibc {k mn mx n : Int} {s : BitVec 256} {l : List Rx} (h : wbt (.mk k mn mx n s l) = true) :
    (k = 5 → l ≠ []) ∧ (k = 4 → l ≠ [] ∧ 0 ≤ mn ∧ mn ≤ 20 ∧ -1 ≤ mx ∧ mx ≤ 20) := by
  constructor
  · intro h5; subst h5
    have h3 : decide ((l.length : Int) = 1) = true := h
    rw [decide_eq_true_eq] at h3
    intro he; subst he; simp at h3
  · intro h4; subst h4
    have h3 : (decide ((l.length : Int) = 1) && (l.any (wgi [1, 5, 6]) && repF (.mk 4 mn mx n s l))) = true := h
    rw [Bool.and_eq_true, Bool.and_eq_true, decide_eq_true_eq] at h3
    have h5 : (decide (0 ≤ mn) && (decide (mn ≤ 20) && (decide (mx = -1) || (decide (max mn 1 ≤ mx) && decide (mx ≤ 20))))) = true := h3.2.2
    simp only [Bool.and_eq_true, Bool.or_eq_true, decide_eq_true_eq] at h5
    refine ⟨fun he => by subst he; simp at h3, h5.1, h5.2.1, ?_, ?_⟩ <;> omega
theorem walk_ok : ∀ (r : Rx) (d g : Int), 0 ≤ g → (wjj r d g).1 = true → (wjj r d g).2 ≤ 3 → okR r = true := by
  refine Rx.rec (motive_1 := fun r => ∀ (d g : Int), 0 ≤ g → (wjj r d g).1 = true → (wjj r d g).2 ≤ 3 → okR r = true) (motive_2 := fun l => ∀ (d g : Int), 0 ≤ g → (wbh l d g).1 = true → (wbh l d g).2 ≤ 3 → okRs l = true) ?_ ?_ ?_
  · intro k mn mx n s l ih d g hg h1 h2
    have hle : ∀ d g, g ≤ (wbh l d g).2 := by
      clear ih h1 h2 hg
      induction l with
      | nil => intro d g; rw [wbh]; exact Int.le_refl _
      | cons a l ih =>
        intro d g
        rw [wbh]
        have := (wwbb a d g).1
        split
        · have := ih d (wjj a d g).2; omega
        · exact this
    rw [wjj] at h1 h2
    rw [okR, Bool.and_eq_true]
    by_cases hb : webc (.mk k mn mx n s l) = true
    · rw [if_pos hb] at h1 h2
      by_cases hk : wbt (.mk k mn mx n s l) = true
      · rw [if_pos hk] at h1 h2
        have ⟨k5, k4⟩ := wibc hk
        by_cases h5 : k = 5
        · rw [if_pos h5] at h1 h2
          rw [if_pos h5]
          by_cases hn : n = g + 1
          · rw [if_pos hn] at h1 h2
            by_cases hd : d + 1 ≤ 6
            · rw [if_pos hd] at h1 h2
              have := hle (d + 1) (g + 1)
              refine ⟨?_, ih _ _ (by omega) h1 h2⟩
              simp only [Bool.and_eq_true, decide_eq_true_eq]
              exact ⟨k5 h5, by omega, by omega⟩
            · rw [if_neg hd] at h1; cases h1
          · rw [if_neg hn] at h1; cases h1
        · rw [if_neg h5] at h1 h2 ⊢
          by_cases h6 : k = 6
          · rw [if_pos h6] at h1 h2
            rw [if_neg (by omega), if_pos h6]
            simp only [Bool.and_eq_true, decide_eq_true_eq] at h1 ⊢
            have hl0 : l = [] := by
              subst h6
              have h3 : decide ((l.length : Int) = 0) = true := hk
              rw [decide_eq_true_eq] at h3
              exact List.eq_nil_of_length_eq_zero (by omega)
            subst hl0
            exact ⟨⟨h1.1, by simp only at h2; omega⟩, by rw [okRs]⟩
          · rw [if_neg h6] at h1 h2 ⊢
            refine ⟨?_, ih _ _ hg h1 h2⟩
            by_cases h4 : k = 4
            · rw [if_pos h4]
              simp only [Bool.and_eq_true, decide_eq_true_eq]
              exact k4 h4
            · rw [if_neg h4]
      · rw [if_neg hk] at h1; cases h1
    · rw [if_neg hb] at h1; cases h1
  · intro _ _ _ _ _; rw [okRs]
  · intro r l h1 h2 d g hg h3 h4
    rw [wbh] at h3 h4
    have hw := wwbb r d g
    by_cases hr : (wjj r d g).1 = true
    · rw [if_pos hr] at h3 h4
      have hle : ∀ (l : List Rx) (d g : Int), g ≤ (wbh l d g).2 := by
        intro l
        induction l with
        | nil => intro d g; rw [wbh]; exact Int.le_refl _
        | cons a l ih =>
          intro d g
          rw [wbh]
          have := (wwbb a d g).1
          split
          · have := ih d (wjj a d g).2; omega
          · exact this
      have := hle l d (wjj r d g).2
      rw [okRs, Bool.and_eq_true]
      exact ⟨h1 d g hg hr (by omega), h2 d _ (by omega) h3 h4⟩
    · rw [if_neg hr] at h3; cases h3
theorem wybb {r : Rx} (h : wnt r = true) : okR r = true := by
  rw [wnt, Bool.and_eq_true, Bool.and_eq_true, decide_eq_true_eq, decide_eq_true_eq] at h
  exact walk_ok r 0 0 (Int.le_refl _) h.2.1 h.2.2
theorem ev_ways (s : List UInt8) (bol : Bool) (hs : s.length ≤ 12) : ∀ r : Rx, wfc r ≤ 1000000 → okR r = true → wabc s bol r := by
  refine Rx.rec (motive_1 := fun r => wfc r ≤ 1000000 → okR r = true → wabc s bol r) (motive_2 := fun l => wjb l ≤ 1000000 → okRs l = true → wqfb s bol l) ?_ ?_ ?_
  · intro k mn mx n set l ih hn hok
    rw [wfc] at hn
    have hl := wsw l
    refine wbbc s bol hs k mn mx n set l (by omega) hok (ih (by omega) ?_)
    rw [okR, Bool.and_eq_true] at hok
    exact hok.2
  · intro _ _ r h; cases h
  · intro r l h1 h2 hn hok x hx
    rw [wjb] at hn
    rw [okRs, Bool.and_eq_true] at hok
    rcases List.mem_cons.1 hx with rfl | hx
    · intro y hy
      exact ⟨wyr (s := s) rfl (bol := bol) _ hok.1 y hy, h1 (by omega) hok.1 y hy⟩
    · exact h2 (by omega) hok.2 x hx
theorem wjbc {len : Nat} {a : Int} (h1 : 0 ≤ a) (h2 : a ≤ len) : GdS len (a, wxr) := by
  refine ⟨h1, h2, rfl, rfl, fun g g1 g3 => .inl ?_⟩
  rcases (show g = 1 ∨ g = 2 ∨ g = 3 by omega) with rfl | rfl | rfl <;> exact ⟨rfl, rfl⟩
def wuj (r : Rx) (s : List UInt8) (bol : Bool) (a : Int) : List St := if wnt r = true ∧ 0 ≤ a ∧ a ≤ s.length then wne s bol r (a, wxr) else []
theorem wjrb {r : Rx} {s : List UInt8} {bol : Bool} {a : Int} : RwS s.length a (wuj r s bol a) := by
  unfold wuj
  split
  · rename_i h
    exact wyr (s := s) rfl (bol := bol) r (wybb h.1) (a, wxr) (wjbc h.2.1 h.2.2)
  · exact .nil
theorem wkbc (r : Rx) (hn : wfc r ≤ 1000000) (s : List UInt8) (hs : s.length ≤ 12) (bol : Bool) (a : Int) : lim Try.prog cfg (.call 36 [.agg ⟨rxC r⟩, str s, .bool bol, .int .i64 a]) (HP []) = some (.val (FL (wuj r s bol a).length (stsC (wuj r s bol a))), HP []) := by
  have h := ev_Right r hn
  refine wlb hc wlx (Nat.le_of_ble_eq_true rfl) (Nat.le_of_ble_eq_true rfl) ?_
  unfold wfw wuj
  have h0 := ev_None
  cases hr : wnt r with
  | false =>
    rw [if_neg (by simp)]
    rw [hr] at h
    clear hr h0
    (repeat' (first | (simp -implicitDefEqProofs (maxSteps := 2000000) (disch := first | with_reducible assumption | omega | (simp only [zS, zA, seval, zD] <;> omega) | fail) only [zS, argl, insA, Go.Den.wm, wo, wu, looks, wbb, wab, idOf, riA, seval, Go.Den.wh, kK, wgb, wkb, *, zT]) | (with_reducible (first | apply z1 | apply z2 | apply z3 | apply z4) <;> intro hq <;> (try simp only [zH] at hq) <;> (try (exfalso; omega))) | (with_reducible apply z5; (case hl => (repeat (first | exact .nil | with_reducible apply z6 | with_reducible apply z7))); (case h => kernel_rfl))))
  | true =>
    rw [hr] at h
    by_cases h1 : 0 ≤ a
    · by_cases h2 : a ≤ s.length
      · rw [if_pos ⟨rfl, h1, h2⟩]
        have hw := ev_ways s bol hs r hn (wybb hr) (a, wxr) (wjbc h1 h2)
        rw [← st_fold] at hw
        clear hr
        (repeat' (first | (simp -implicitDefEqProofs (maxSteps := 2000000) (disch := first | with_reducible assumption | omega | (simp only [zS, zA, seval, zD] <;> omega) | fail) only [zS, argl, insA, Go.Den.wm, wo, wu, looks, wbb, wab, idOf, riA, seval, Go.Den.wh, kK, wgb, wkb, *, zT]) | (with_reducible (first | apply z1 | apply z2 | apply z3 | apply z4) <;> intro hq <;> (try simp only [zH] at hq) <;> (try (exfalso; omega))) | (with_reducible apply z5; (case hl => (repeat (first | exact .nil | with_reducible apply z6 | with_reducible apply z7))); (case h => kernel_rfl))))
      · rw [if_neg (fun h => h2 h.2.2)]
        clear hr h0
        (repeat' (first | (simp -implicitDefEqProofs (maxSteps := 2000000) (disch := first | with_reducible assumption | omega | (simp only [zS, zA, seval, zD] <;> omega) | fail) only [zS, argl, insA, Go.Den.wm, wo, wu, looks, wbb, wab, idOf, riA, seval, Go.Den.wh, kK, wgb, wkb, *, zT]) | (with_reducible (first | apply z1 | apply z2 | apply z3 | apply z4) <;> intro hq <;> (try simp only [zH] at hq) <;> (try (exfalso; omega))) | (with_reducible apply z5; (case hl => (repeat (first | exact .nil | with_reducible apply z6 | with_reducible apply z7))); (case h => kernel_rfl))))
    · rw [if_neg (fun h => h1 h.2.1)]
      clear hr h0
      (repeat' (first | (simp -implicitDefEqProofs (maxSteps := 2000000) (disch := first | with_reducible assumption | omega | (simp only [zS, zA, seval, zD] <;> omega) | fail) only [zS, argl, insA, Go.Den.wm, wo, wu, looks, wbb, wab, idOf, riA, seval, Go.Den.wh, kK, wgb, wkb, *, zT]) | (with_reducible (first | apply z1 | apply z2 | apply z3 | apply z4) <;> intro hq <;> (try simp only [zH] at hq) <;> (try (exfalso; omega))) | (with_reducible apply z5; (case hl => (repeat (first | exact .nil | with_reducible apply z6 | with_reducible apply z7))); (case h => kernel_rfl))))
end
end Go.Proofs.Ytgpabbbibmnnlaa
namespace Go.Proofs.Ytgpabbbibmnnlaa
open Go.Den
noncomputable section
def shL (d : Int) : List Int → List Int
  | a :: b :: l => (if a < 0 then a else a + d) :: (if a < 0 then b else b + d) :: shL d l
  | l => l
theorem wlbc (d : Int) : ∀ (l : List Int), (shL d l).length = l.length
  | [] => rfl
  | [_] => rfl
  | a :: b :: l => by rw [shL, List.length_cons, List.length_cons, wlbc d l]; rfl
def shM (d : Int) (m : Mt) : Mt := ⟨shL d m.1, by rw [wlbc]; exact m.2⟩
def shS (d : Int) (x : St) : St := (x.1 + d, shM d x.2)
theorem shL_at (d : Int) : ∀ (l : List Int) (g : Nat), g * 2 + 1 < l.length →
    (shL d l).getD (g * 2) 0 = (if l.getD (g * 2) 0 < 0 then l.getD (g * 2) 0 else l.getD (g * 2) 0 + d) ∧ (shL d l).getD (g * 2 + 1) 0 = (if l.getD (g * 2) 0 < 0 then l.getD (g * 2 + 1) 0 else l.getD (g * 2 + 1) 0 + d)
  | [], g, h => by simp at h
  | [_], g, h => by simp at h
  | a :: b :: l, 0, _ => ⟨rfl, rfl⟩
  | a :: b :: l, g + 1, h => by
    have := shL_at d l g (by simp at h; omega)
    rw [show (g + 1) * 2 = g * 2 + 1 + 1 by omega, show g * 2 + 1 + 1 + 1 = (g * 2 + 1) + 1 + 1 by omega]
    exact this
theorem wdz {d : Int} {m : Mt} {g : Nat} (h : g < 4) : (shM d m).at (g * 2) = (if m.at (g * 2) < 0 then m.at (g * 2) else m.at (g * 2) + d) ∧ (shM d m).at (g * 2 + 1) = (if m.at (g * 2) < 0 then m.at (g * 2 + 1) else m.at (g * 2 + 1) + d) :=
  shL_at d m.1 g (by rw [m.2]; omega)
theorem wmbc {m n : Mt} (h : ∀ g, g < 4 → m.at (g * 2) = n.at (g * 2) ∧ m.at (g * 2 + 1) = n.at (g * 2 + 1)) : m = n := by
  apply Subtype.ext
  apply List.ext_getElem (by rw [m.2, n.2])
  intro j h1 h2
  have h3 : ∀ (q : Mt) (hq : j < q.1.length), q.1[j] = q.at j := fun q hq => by
    rw [Mt.at, List.getD_eq_getElem?_getD, List.getElem?_eq_getElem hq]; rfl
  rw [h3 m h1, h3 n h2]
  have hj : j < 8 := by rw [m.2] at h1; exact h1
  have h4 := h (j / 2) (by omega)
  rcases (show j = j / 2 * 2 ∨ j = j / 2 * 2 + 1 by omega) with e | e
  · rw [e]; exact h4.1
  · rw [e]; exact h4.2
theorem shM_inj {d : Int} (hd : 0 ≤ d) {m n : Mt} (h : shM d m = shM d n) : m = n := by
  apply wmbc
  intro g hg
  have h1 := wdz (d := d) (m := m) hg
  have h2 := wdz (d := d) (m := n) hg
  rw [h] at h1
  have e1 := h1.1.symm.trans h2.1
  have e2 := h1.2.symm.trans h2.2
  by_cases a1 : m.at (g * 2) < 0 <;> by_cases a2 : n.at (g * 2) < 0 <;> simp only [a1, a2, if_true, if_false] at e1 e2 <;> constructor <;> omega
theorem wnbc {d : Int} (hd : 0 ≤ d) {x y : St} (h : shS d x = shS d y) : x = y := by
  have h1 : x.1 + d = y.1 + d := congrArg Prod.fst h
  have h2 := shM_inj hd (congrArg Prod.snd h)
  exact Prod.ext (by omega) h2
theorem shM_put {d : Int} {m : Mt} {n : Nat} (hn : n < 4) {a b : Int} (ha : 0 ≤ a) : shM d ((m.put (n * 2) a).put (n * 2 + 1) b) = ((shM d m).put (n * 2) (a + d)).put (n * 2 + 1) (b + d) := by
  apply wmbc
  intro g hg
  have h1 := wdz (d := d) (m := (m.put (n * 2) a).put (n * 2 + 1) b) hg
  rw [h1.1, h1.2]
  have h2 := wdz (d := d) (m := m) hg
  simp only [Mt.at_put, h2.1, h2.2]
  by_cases e : n = g
  · subst e
    rw [if_neg (show ¬ (n * 2 + 1 = n * 2 ∧ n * 2 < 8) by omega), if_pos (show n * 2 = n * 2 ∧ n * 2 < 8 by omega), if_neg (show ¬ a < 0 by omega), if_pos (show n * 2 + 1 = n * 2 + 1 ∧ n * 2 + 1 < 8 by omega), if_neg (show ¬ (n * 2 + 1 = n * 2 ∧ n * 2 < 8) by omega), if_pos (show n * 2 = n * 2 ∧ n * 2 < 8 by omega), if_neg (show ¬ a < 0 by omega), if_pos (show n * 2 + 1 = n * 2 + 1 ∧ n * 2 + 1 < 8 by omega)]
    exact ⟨rfl, rfl⟩
  · rw [if_neg (show ¬ (n * 2 + 1 = g * 2 ∧ g * 2 < 8) by omega), if_neg (show ¬ (n * 2 = g * 2 ∧ g * 2 < 8) by omega), if_neg (show ¬ (n * 2 + 1 = g * 2 + 1 ∧ g * 2 + 1 < 8) by omega), if_neg (show ¬ (n * 2 = g * 2 + 1 ∧ g * 2 + 1 < 8) by omega)]
    rw [if_neg (show ¬ (n * 2 + 1 = g * 2 ∧ g * 2 < 8) by omega), if_neg (show ¬ (n * 2 = g * 2 ∧ g * 2 < 8) by omega), if_neg (show ¬ (n * 2 + 1 = g * 2 + 1 ∧ g * 2 + 1 < 8) by omega), if_neg (show ¬ (n * 2 = g * 2 + 1 ∧ g * 2 + 1 < 8) by omega)]
    exact ⟨rfl, rfl⟩
theorem mem_sh {d : Int} (hd : 0 ≤ d) {x : St} {l : List St} : shS d x ∈ l.map (shS d) ↔ x ∈ l := by
  rw [List.mem_map]
  exact ⟨fun ⟨y, hy, e⟩ => wnbc hd e ▸ hy, fun h => ⟨x, h, rfl⟩⟩
theorem wdkb {d : Int} (hd : 0 ≤ d) : ∀ (xs l : List St), addF (l.map (shS d)) (xs.map (shS d)) = (addF l xs).map (shS d) := by
  intro xs
  induction xs with
  | nil => intro l; rfl
  | cons x xs ih =>
    intro l
    rw [List.map_cons, wsl, wsl]
    by_cases h : x ∈ l
    · rw [if_pos h, if_pos ((mem_sh hd).2 h), ih]
    · rw [if_neg h, if_neg (fun hh => h ((mem_sh hd).1 hh)), show l.map (shS d) ++ [shS d x] = (l ++ [x]).map (shS d) by rw [List.map_append]; rfl, ih]
theorem wobc {d : Int} (hd : 0 ≤ d) {f g : St → List St} : ∀ (l : List St), (∀ y ∈ l, g (shS d y) = (f y).map (shS d)) → ∀ out : List St,
    (l.map (shS d)).foldl (fun out y => addF out (g y)) (out.map (shS d)) = (l.foldl (fun out y => addF out (f y)) out).map (shS d) := by
  intro l
  induction l with
  | nil => intro _ out; rfl
  | cons y l ih =>
    intro h out
    rw [List.map_cons, List.foldl_cons, List.foldl_cons, h y (List.mem_cons_self ..), wdkb hd]
    exact ih (fun z hz => h z (List.mem_cons_of_mem _ hz)) _
def shK (d : Int) (q : Int × St) : Int × St := (q.1, shS d q.2)
theorem wpbc {d : Int} (hd : 0 ≤ d) {q : Int × St} {l : List (Int × St)} : shK d q ∈ l.map (shK d) ↔ q ∈ l := by
  rw [List.mem_map]
  refine ⟨fun ⟨y, hy, e⟩ => ?_, fun h => ⟨q, h, rfl⟩⟩
  have e0 := congrArg Prod.fst e
  have e1 : y.1 = q.1 := e0
  have e3 := congrArg Prod.snd e
  have e2 : y.2 = q.2 := wnbc hd e3
  have : y = q := Prod.ext e1 e2
  exact this ▸ hy
def shA (d : Int) (a : List (Int × St) × List St) : List (Int × St) × List St := (a.1.map (shK d), a.2.map (shS d))
theorem on_sh {d : Int} (hd : 0 ≤ d) {G : St → Prop} {w w' : St → List St} (hw : ∀ y, G y → w' (shS d y) = (w y).map (shS d)) (hg : ∀ y, G y → ∀ z ∈ w y, G z) {mn mx : Int} :
    ∀ (k : Nat) (n : Int) (x : St) (a : List (Int × St) × List St), G x → onF w' mn mx k n (shS d x) (shA d a) = shA d (onF w mn mx k n x a) := by
  intro k
  induction k with
  | zero => intro n x a _; rfl
  | succ k ih =>
    intro n x a hx
    rw [onF, onF]
    have hk : keyF mn mx n (shS d x) = shK d (keyF mn mx n x) := rfl
    rw [hk, show (shA d a).1 = a.1.map (shK d) from rfl, show (shA d a).2 = a.2.map (shS d) from rfl]
    by_cases h : keyF mn mx n x ∈ a.1
    · rw [if_pos h, if_pos ((wpbc hd).2 h)]
    · rw [if_neg h, if_neg (fun hh => h ((wpbc hd).1 hh))]
      have hb : (if mx < 0 ∨ n < mx then (w' (shS d x)).foldl (fun b y => if y.1 ≠ (shS d x).1 ∨ n < mn then onF w' mn mx k (n + 1) y b else b) (a.1.map (shK d) ++ [shK d (keyF mn mx n x)], a.2.map (shS d)) else (a.1.map (shK d) ++ [shK d (keyF mn mx n x)], a.2.map (shS d)))
          = shA d (if mx < 0 ∨ n < mx then (w x).foldl (fun b y => if y.1 ≠ x.1 ∨ n < mn then onF w mn mx k (n + 1) y b else b) (a.1 ++ [keyF mn mx n x], a.2) else (a.1 ++ [keyF mn mx n x], a.2)) := by
        have e0 : (a.1.map (shK d) ++ [shK d (keyF mn mx n x)], a.2.map (shS d)) = shA d (a.1 ++ [keyF mn mx n x], a.2) := by
          unfold shA; rw [List.map_append]; rfl
        rw [e0]
        by_cases hc : mx < 0 ∨ n < mx
        · rw [if_pos hc, if_pos hc, hw x hx]
          have hf : ∀ (l : List St), (∀ y ∈ l, G y) → ∀ b, (l.map (shS d)).foldl (fun b y => if y.1 ≠ (shS d x).1 ∨ n < mn then onF w' mn mx k (n + 1) y b else b) (shA d b) = shA d (l.foldl (fun b y => if y.1 ≠ x.1 ∨ n < mn then onF w mn mx k (n + 1) y b else b) b) := by
            intro l
            induction l with
            | nil => intro _ b; rfl
            | cons y l ih2 =>
              intro hl b
              rw [List.map_cons, List.foldl_cons, List.foldl_cons]
              have hy := hl y (List.mem_cons_self ..)
              have e : (if (shS d y).1 ≠ (shS d x).1 ∨ n < mn then onF w' mn mx k (n + 1) (shS d y) (shA d b) else shA d b) = shA d (if y.1 ≠ x.1 ∨ n < mn then onF w mn mx k (n + 1) y b else b) := by
                by_cases q : y.1 ≠ x.1 ∨ n < mn
                · rw [if_pos q, if_pos (by rcases q with q | q; (left; show y.1 + d ≠ x.1 + d; omega); exact .inr q), ih _ _ _ hy]
                · rw [if_neg q, if_neg (fun hh => q (by rcases hh with hh | hh; (left; have hh : y.1 + d ≠ x.1 + d := hh; omega); exact .inr hh))]
              rw [e]
              exact ih2 (fun z hz => hl z (List.mem_cons_of_mem _ hz)) _
          exact hf (w x) (hg x hx) _
        · rw [if_neg hc, if_neg hc]
      simp only [hb]
      by_cases hn : n ≥ mn
      · rw [if_pos hn, if_pos hn]
        unfold shA
        rw [← wdkb hd]; rfl
      · rw [if_neg hn, if_neg hn]
theorem cut_sh (u s : List UInt8) {a b : Int} (ha : 0 ≤ a) (hb : 0 ≤ b) : ((u ++ s).take (b + u.length).toNat).drop (a + u.length).toNat = (s.take b.toNat).drop a.toNat := by
  rw [show (b + u.length).toNat = u.length + b.toNat by omega, show (a + u.length).toNat = u.length + a.toNat by omega, List.take_length_add_append, List.drop_length_add_append]
theorem ways_sh {u s : List UInt8} : ∀ (r : Rx), okR r = true → ∀ x, GdS s.length x → wne (u ++ s) false r (shS u.length x) = (wne s false r x).map (shS u.length) := by
  have hd : (0 : Int) ≤ u.length := by omega
  refine Rx.rec (motive_1 := fun r => okR r = true → ∀ x, GdS s.length x → wne (u ++ s) false r (shS u.length x) = (wne s false r x).map (shS u.length))
    (motive_2 := fun kids => okRs kids = true → (∀ r ∈ kids, okR r = true ∧ ∀ x, GdS s.length x → wne (u ++ s) false r (shS u.length x) = (wne s false r x).map (shS u.length))) ?_ ?_ ?_
  · intro k mn mx n set kids ih hok x hx
    rw [okR, Bool.and_eq_true] at hok
    have hk := ih hok.2
    have hlo := hx.lo
    have hhi := hx.hi
    have kid : kids ≠ [] → ∀ y, GdS s.length y → kidF (u ++ s) false kids (shS u.length y) = (kidF s false kids y).map (shS u.length) ∧ ∀ z ∈ kidF s false kids y, GdS s.length z := by
      intro hne y hy
      cases kids with
      | nil => exact absurd rfl hne
      | cons r rs =>
        rw [kidF, kidF]
        have h1 := hk r (List.mem_cons_self ..)
        exact ⟨h1.2 y hy, fun z hz => ((wyr (s := s) rfl (bol := false) r h1.1 y hy).good z hz).1⟩
    have hlen : ((u ++ s).length : Int) = s.length + u.length := by rw [List.length_append]; omega
    rw [wne, wne]
    split
    · have e1 : (u ++ s).getD (shS u.length x).1.toNat 0 = s.getD x.1.toNat 0 := by
        show (u ++ s).getD (x.1 + u.length).toNat 0 = _
        rw [show (x.1 + u.length).toNat = u.length + x.1.toNat by omega, List.getD_eq_getElem?_getD, List.getElem?_append_right (by omega), List.getD_eq_getElem?_getD, Nat.add_sub_cancel_left]
      rw [e1]
      by_cases h : x.1 < s.length ∧ set.getLsbD (s.getD x.1.toNat 0).toNat = true
      · rw [if_pos h, if_pos ⟨by show x.1 + u.length < _; omega, h.2⟩]
        show [(x.1 + u.length + 1, _)] = [(x.1 + 1 + u.length, _)]
        rw [show x.1 + u.length + 1 = x.1 + 1 + u.length by omega]; rfl
      · rw [if_neg h, if_neg (fun hh => h ⟨by have : x.1 + u.length < _ := hh.1; omega, hh.2⟩)]; rfl
    split
    · rw [if_neg (by simp), if_neg (by simp)]; rfl
    split
    · by_cases h : x.1 = s.length
      · rw [if_pos h, if_pos (by show x.1 + u.length = _; omega)]; rfl
      · rw [if_neg h, if_neg (fun hh => h (by have : x.1 + u.length = _ := hh; omega))]; rfl
    split
    · rename_i h6
      have h := hok.1
      rw [if_neg (by omega), if_neg (by omega), if_pos h6] at h
      simp only [Bool.and_eq_true, decide_eq_true_eq] at h
      have ha := wdz (d := u.length) (m := x.2) (show n.toNat < 4 by omega)
      have hsp := hx.sp n.toNat (by omega) (by omega)
      unfold wxjb
      rw [show (shS u.length x).2 = shM u.length x.2 from rfl, show (shS u.length x).1 = x.1 + u.length from rfl, ha.1, ha.2, hlen]
      generalize x.2.at (n.toNat * 2) = a at *
      generalize x.2.at (n.toNat * 2 + 1) = b at *
      by_cases c1 : a < 0
      · rw [if_pos c1, if_pos c1, if_pos c1]; rfl
      · rcases hsp with hsp | hsp
        · omega
        simp only [if_neg c1]
        rw [if_neg (show ¬ a + (u.length : Int) < 0 by omega)]
        by_cases c2 : b - a > s.length - x.1
        · rw [if_pos c2, if_pos (by omega)]; rfl
        · rw [if_neg c2, if_neg (by omega), cut_sh u s hsp.1 (by omega), show x.1 + (u.length : Int) + (b + u.length - (a + u.length)) = x.1 + (b - a) + u.length by omega, cut_sh u s hlo (by omega)]
          split
          · rfl
          · rfl
    split
    · rename_i h5
      have h := hok.1
      rw [if_pos h5] at h
      simp only [Bool.and_eq_true, decide_eq_true_eq] at h
      obtain ⟨k1, k2⟩ := kid h.1 x hx
      rw [k1]
      refine wobc hd (f := fun y : St => [(y.1, (y.2.put (n.toNat * 2) x.1).put (n.toNat * 2 + 1) y.1)]) (g := fun y : St => [(y.1, (y.2.put (n.toNat * 2) (shS u.length x).1).put (n.toNat * 2 + 1) y.1)]) _ (fun y hy => ?_) []
      show [(_, _)] = [(_, _)]
      congr 2
      show ((shM u.length y.2).put (n.toNat * 2) (x.1 + u.length)).put (n.toNat * 2 + 1) (y.1 + u.length) = _
      rw [← shM_put (show n.toNat < 4 by omega) hlo]
    split
    · have alt : ∀ (l : List Rx), (∀ r ∈ l, okR r = true ∧ ∀ x, GdS s.length x → wne (u ++ s) false r (shS u.length x) = (wne s false r x).map (shS u.length)) → ∀ out : List St, altF (u ++ s) false l (shS u.length x) (out.map (shS u.length)) = (altF s false l x out).map (shS u.length) := by
        intro l
        induction l with
        | nil => intro _ out; rw [altF, altF]
        | cons r l ih =>
          intro hl out
          rw [altF, altF, (hl r (List.mem_cons_self ..)).2 x hx, wdkb hd]
          exact ih (fun r hr => hl r (List.mem_cons_of_mem _ hr)) _
      exact alt kids hk []
    split
    · have cat : ∀ (l : List Rx), (∀ r ∈ l, okR r = true ∧ ∀ x, GdS s.length x → wne (u ++ s) false r (shS u.length x) = (wne s false r x).map (shS u.length)) → ∀ out : List St, (∀ y ∈ out, GdS s.length y) → catF (u ++ s) false l (out.map (shS u.length)) = (catF s false l out).map (shS u.length) := by
        intro l
        induction l with
        | nil => intro _ out _; rw [catF, catF]
        | cons r l ih =>
          intro hl out ho
          have h1 := hl r (List.mem_cons_self ..)
          rw [catF, catF]
          have h2 : wqx (fun y => wne (u ++ s) false r y) (out.map (shS u.length)) = (wqx (fun y => wne s false r y) out).map (shS u.length) :=
            wobc hd _ (fun y hy => h1.2 y (ho y hy)) []
          rw [h2]
          refine ih (fun r hr => hl r (List.mem_cons_of_mem _ hr)) _ ?_
          have hrow : RwS s.length 0 (wqx (fun y => wne s false r y) out) := by
            refine RwS.fold (fun y => wne s false r y) _ (fun z hz y hy => ?_) _ .nil
            have h3 := (wyr (s := s) rfl (bol := false) r h1.1 z (ho z hz)).good y hy
            exact ⟨h3.1, h3.1.lo⟩
          exact fun y hy => (hrow.good y hy).1
      exact cat kids hk [x] (fun y hy => by rw [List.mem_singleton] at hy; subst hy; exact hx)
    split
    · rename_i h4
      have h := hok.1
      rw [if_neg (by omega), if_pos h4] at h
      simp only [Bool.and_eq_true, decide_eq_true_eq] at h
      have := on_sh hd (G := GdS s.length) (w := fun y => kidF s false kids y) (w' := fun y => kidF (u ++ s) false kids y) (fun y hy => (kid h.1 y hy).1) (fun y hy => (kid h.1 y hy).2) (mn := mn) (mx := mx) 100 0 x ([], []) hx
      exact congrArg Prod.snd this
    · rfl
  · intro _ r hr; cases hr
  · intro r rs ih1 ih2 hok
    rw [okRs, Bool.and_eq_true] at hok
    intro r' hr'
    rcases List.mem_cons.1 hr' with rfl | h
    · exact ⟨hok.1, ih1 hok.1⟩
    · exact ih2 hok.2 r' h
theorem wqbc (r : Rx) (u s : List UInt8) (i : Int) (h0 : 0 ≤ i) (h1 : i ≤ s.length) : wuj r (u ++ s) false (i + u.length) = (wuj r s false i).map (shS u.length) := by
  unfold wuj
  by_cases hr : wnt r = true
  · rw [if_pos ⟨hr, by omega, by rw [List.length_append]; omega⟩, if_pos ⟨hr, h0, h1⟩, ← ways_sh r (wybb hr) _ (wjbc h0 h1)]; rfl
  · rw [if_neg (fun h => hr h.1), if_neg (fun h => hr h.1)]; rfl
end
end Go.Proofs.Ytgpabbbibmnnlaa
namespace Go.Proofs.Ytgpabbbibmnnlaa
set_option linter.unusedVariables false
set_option linter.unusedSimpArgs false
open Go.Den
noncomputable section
def elems1 : Option ABlk → Option (List Value)
  | some (.cells b) => (match (bif rdOk b 0 1 then some b else none) with
    | some b => some (slotsOf b.cells 0 1)
    | none => none)
  | _ => none
def b2s1 (o : Option ABlk) : ARes := match elems1 o with
  | some l => bif l.all isU8 then val (.string ⟨(l.map toU8).toArray⟩) else .none
  | none => .none
theorem b2s_HP {h : List ABlk} (hh : h.length ≤ 1099511627774) {i c : Nat} : b2sR (HP h) (.slice (some ⟨i, 0, none⟩) 1 c) = b2s1 h[i]? := by
  have h2 : wni (HP h) 1 1 (.slice (some ⟨i, 0, none⟩) 1 c) = elems1 h[i]? := by
    show (match wsg (HP h) ⟨i, 0, none⟩ 1 with
      | some b => some (slotsOf b.cells 0 1)
      | none => none) = _
    unfold wsg
    rw [wmh h hh]
    cases h[i]? with
    | none => rfl
    | some b => cases b <;> rfl
  show (match wni (HP h) 1 1 (.slice (some ⟨i, 0, none⟩) 1 c) with
    | some l => bif l.all isU8 then val (.string ⟨(l.map toU8).toArray⟩) else .none
    | none => .none) = _
  rw [h2]
  rfl
theorem b2s_X {x : Nat} {t z : Nat} {pf : Bool} (hx : x < 256) : b2s1 (some (X [.int .u8 (x : Nat)] t z pf)) = val (str [UInt8.ofNat x]) := by
  show (bif (Nat.blt x 256 && true) then val (.string ⟨#[UInt8.ofNat x]⟩) else .none) = _
  rw [nblt, decide_eq_true hx]
  rfl
def tb (k : Nat) : Nat := [97, 98, 97, 99, 98, 46, 97, 32].getD k 0
theorem tb_get {k : Nat} (h : k < 8) : ([.int .u8 97, .int .u8 98, .int .u8 97, .int .u8 99, .int .u8 98, .int .u8 46, .int .u8 97, .int .u8 32] : List Value)[k]? = some (.int .u8 (tb k)) := by
  rcases (show k = 0 ∨ k = 1 ∨ k = 2 ∨ k = 3 ∨ k = 4 ∨ k = 5 ∨ k = 6 ∨ k = 7 by omega) with rfl | rfl | rfl | rfl | rfl | rfl | rfl | rfl <;> rfl
theorem tb_lt (k : Nat) : tb k < 256 := by
  unfold tb
  rw [List.getD_eq_getElem?_getD]
  by_cases h : k < 8
  · rcases (show k = 0 ∨ k = 1 ∨ k = 2 ∨ k = 3 ∨ k = 4 ∨ k = 5 ∨ k = 6 ∨ k = 7 by omega) with rfl | rfl | rfl | rfl | rfl | rfl | rfl | rfl <;> decide
  · rw [List.getElem?_eq_none (by simp; omega)]; decide
def wrbc (n : Int) : UInt8 := UInt8.ofNat (tb (wzb n 0 7).toNat)
def wsbc (l : List Int) (most : Nat) : List UInt8 := (l.take most).map wrbc
theorem wekb (n : Int) : 0 ≤ wzb n 0 7 ∧ wzb n 0 7 ≤ 7 := by
  unfold wzb
  have := Int.emod_nonneg n (show (8 : Int) ≠ 0 by omega)
  have h5 := Int.emod_lt_of_pos n (show (0 : Int) < 8 by omega)
  rw [show (7 : Int) - 0 + 1 = 8 from rfl, Int.tmod_eq_emod]
  repeat' split
  all_goals omega
theorem wtbc (l : List Int) (most : Nat) (hm : most ≤ 1000) : ∀ (k i : Nat) (acc : List UInt8), i + k = min l.length most → acc.length ≤ i →
    lim Try.prog cfg (.loop 26 0 (wxg 0) (SE (EJ 31 G0) [(6, .int .i64 i), (5, str acc), (1, .int .i64 most), (0, FL l.length (ints l))])) (HP []) = some (.code (.exit 0) (SE (EJ 31 G0) [(5, str (acc ++ ((l.take most).drop i).map wrbc))]), HP []) := by
  intro k
  induction k with
  | zero =>
    intro i acc hi ha
    rw [List.drop_of_length_le (by rw [List.length_take]; omega), List.map_nil, List.append_nil]
    refine wib wri ?_
    unfold wyh
    by_cases h1 : (i : Int) < l.length
    · have h2 : ¬ (i : Int) < most := by omega
      (repeat' (first | (simp -implicitDefEqProofs (maxSteps := 2000000) (disch := first | with_reducible assumption | omega | (simp only [zS, zA, seval] <;> omega) | fail) only [zS, argl, insA, Go.Den.wm, wo, wu, looks, wbb, wab, idOf, riA, seval, Go.Den.wh, kK, wbg, wif, wgb, wkb, *]) | (with_reducible (first | apply z1 | apply z2 | apply z3 | apply z4) <;> intro hq <;> (try simp only [zH] at hq) <;> (try (exfalso; omega)))))
    · (repeat' (first | (simp -implicitDefEqProofs (maxSteps := 2000000) (disch := first | with_reducible assumption | omega | (simp only [zS, zA, seval] <;> omega) | fail) only [zS, argl, insA, Go.Den.wm, wo, wu, looks, wbb, wab, idOf, riA, seval, Go.Den.wh, kK, wbg, wif, wgb, wkb, *]) | (with_reducible (first | apply z1 | apply z2 | apply z3 | apply z4) <;> intro hq <;> (try simp only [zH] at hq) <;> (try (exfalso; omega)))))
  | succ k ih =>
    intro i acc hi ha
    have hlt : i < (l.take most).length := by rw [List.length_take]; omega
    rw [List.drop_eq_getElem_cons hlt, List.map_cons]
    have hg := wcs (l := l) (i := i) (by omega)
    have hv : (l.take most)[i] = l.getD i 0 := by rw [List.getElem_take, List.getD_eq_getElem?_getD, List.getElem?_eq_getElem (by omega)]; rfl
    rw [hv]
    have hw := wwd (l.getD i 0) 0 7 (by omega) (by omega) (by omega)
    have hin := wekb (l.getD i 0)
    have htb := tb_get (k := (wzb (l.getD i 0) 0 7).toNat) (by omega)
    have hlt2 := tb_lt (wzb (l.getD i 0) 0 7).toNat
    have h1 : (i : Int) < l.length := by omega
    have h2 : (i : Int) < most := by omega
    · have h := ih (i + 1) (acc ++ [wrbc (l.getD i 0)]) (by omega) (by simp; omega)
      rw [List.append_assoc, List.singleton_append] at h
      clear ih hv hlt
      unfold wrbc at h ⊢
      generalize wzb (l.getD i 0) 0 7 = w at *
      generalize tb w.toNat = c at *
      refine wib wri ?_
      unfold wyh
      (repeat' (first | (simp -implicitDefEqProofs (maxSteps := 2000000) (disch := first | with_reducible assumption | omega | (simp only [zS, zA, seval] <;> omega) | fail) only [zS, argl, insA, Go.Den.wm, wo, wu, looks, wbb, wab, idOf, riA, seval, Go.Den.wh, kK, wbg, wif, wgb, wkb, b2s_HP, b2s_X, *]) | (with_reducible (first | apply z1 | apply z2 | apply z3 | apply z4) <;> intro hq <;> (try simp only [zH] at hq) <;> (try (exfalso; omega)))))
      exact h
theorem wubc (l : List Int) (most : Nat) (hm : most ≤ 1000) : lim Try.prog cfg (.call 26 [FL l.length (ints l), .int .i64 most]) (HP []) = some (.val (str (wsbc l most)), HP []) := by
  have h := wtbc l most hm (min l.length most) 0 [] (by omega) (by simp)
  rw [List.drop_zero, List.nil_append, show ((0 : Nat) : Int) = 0 from rfl] at h
  refine wlb hc wip (Nat.le_of_ble_eq_true rfl) (Nat.le_of_ble_eq_true rfl) ?_
  unfold wql
  show _ = some (Out.val (str ((l.take most).map wrbc)), HP [])
  (repeat' (first | (simp -implicitDefEqProofs (maxSteps := 2000000) (disch := first | with_reducible assumption | omega | (simp only [zS, zA, seval] <;> omega) | fail) only [zS, argl, insA, Go.Den.wm, wo, wu, looks, wbb, wab, idOf, riA, seval, Go.Den.wh, kK, wbg, wif, *]) | (with_reducible (first | apply z1 | apply z2 | apply z3 | apply z4) <;> intro hq <;> (try simp only [zH] at hq) <;> (try (exfalso; omega)))))
end
end Go.Proofs.Ytgpabbbibmnnlaa
namespace Go.Proofs.Ytgpabbbibmnnlaa
set_option linter.unusedVariables false
set_option linter.unusedSimpArgs false
open Go.Den
noncomputable section
abbrev bsB (z s : BitVec 256) : List ABlk := [X (setC z) 44 0 true, X (setC s) 44 0 true]
theorem wdd {a b c d e : Value} {s : BitVec 256} : wm [a, b, c, d, e] 0 (setC s) = [wdV s 0, wdV s 1, wdV s 2, wdV s 3, e] := rfl
end
end Go.Proofs.Ytgpabbbibmnnlaa
namespace Go.Proofs.Ytgpabbbibmnnlaa
set_option linter.unusedVariables false
set_option linter.unusedSimpArgs false
open Go.Den
noncomputable section
abbrev mkB (ks ns : List Int) (ere : Bool) : List Value := [FL ks.length (ints ks), FL ns.length (ints ns), .bool ere, .pointer (some ⟨0, 0, none⟩), .pointer (some ⟨1, 0, none⟩), .pointer (some ⟨2, 0, none⟩)]
abbrev mkH (a g l : Int) : List ABlk := [X [.int .i64 a] 3 0 true, X [.int .i64 g] 3 0 true, X [.int .i64 l] 3 0 true]
def woj (ks : List Int) (a : Nat) : Int := if a < ks.length ∧ a < 30 then ks.getD a 0 else 0
def wrf (ns : List Int) (a : Nat) : Int := if 0 < ns.length then ns.getD (a % ns.length) 0 else 0
set_option maxHeartbeats 4000000 in
theorem wtw (ks ns : List Int) (ere : Bool) (a : Nat) (ha : a ≤ 1000000) (g l : Int) : lim Try.prog cfg (.call 94 [.agg ⟨mkB ks ns ere⟩]) (HP (mkH a g l)) = some (.val (.tuple ⟨[.int .i64 (woj ks a), .int .i64 (wrf ns a)]⟩), HP (mkH (a + 1 : Nat) g l)) := by
  refine wlb hc wqk (Nat.le_of_ble_eq_true rfl) (Nat.le_of_ble_eq_true rfl) ?_
  unfold wmi woj wrf
  have hx : ∃ x, (if a < ks.length ∧ a < 30 then ks.getD a 0 else 0) = x := ⟨_, rfl⟩
  have e0 : ((a + 1 : Nat) : Int) = (a : Int) + 1 := by omega
  by_cases hn : 0 < ns.length
  · rw [if_pos hn]
    obtain ⟨q, hq⟩ : ∃ q, a % ns.length = q := ⟨_, rfl⟩
    have hq1 : (a : Int) % (ns.length : Int) = (q : Int) := by omega
    have hq2 : q < ns.length := by rw [← hq]; exact Nat.mod_lt _ hn
    have hq3 : q ≤ a := by rw [← hq]; exact Nat.mod_le _ _
    rw [hq]
    have hg := wcs hq2
    clear hq hx
    by_cases h1 : a < ks.length
    · by_cases h2 : a < 30
      · rw [if_pos ⟨h1, h2⟩]
        have hk := wcs h1
        (repeat' (first | (simp -implicitDefEqProofs (maxSteps := 2000000) (disch := first | with_reducible assumption | omega | (simp only [zS, zA, seval] <;> omega) | fail) only [zS, argl, insA, Go.Den.wm, wo, wu, looks, wbb, wab, idOf, riA, seval, Go.Den.wh, kK, wif, wgb, wkb, *]) | (with_reducible (first | apply z1 | apply z2 | apply z3 | apply z4) <;> intro hq <;> (try simp only [zH] at hq) <;> (try (exfalso; omega))) | (with_reducible apply z5; (case hl => (repeat (first | exact .nil | with_reducible apply z6 | with_reducible apply z7))); (case h => kernel_rfl))))
      · rw [if_neg (fun h => h2 h.2)]
        (repeat' (first | (simp -implicitDefEqProofs (maxSteps := 2000000) (disch := first | with_reducible assumption | omega | (simp only [zS, zA, seval] <;> omega) | fail) only [zS, argl, insA, Go.Den.wm, wo, wu, looks, wbb, wab, idOf, riA, seval, Go.Den.wh, kK, wif, wgb, wkb, *]) | (with_reducible (first | apply z1 | apply z2 | apply z3 | apply z4) <;> intro hq <;> (try simp only [zH] at hq) <;> (try (exfalso; omega))) | (with_reducible apply z5; (case hl => (repeat (first | exact .nil | with_reducible apply z6 | with_reducible apply z7))); (case h => kernel_rfl))))
    · rw [if_neg (fun h => h1 h.1)]
      (repeat' (first | (simp -implicitDefEqProofs (maxSteps := 2000000) (disch := first | with_reducible assumption | omega | (simp only [zS, zA, seval] <;> omega) | fail) only [zS, argl, insA, Go.Den.wm, wo, wu, looks, wbb, wab, idOf, riA, seval, Go.Den.wh, kK, wif, wgb, wkb, *]) | (with_reducible (first | apply z1 | apply z2 | apply z3 | apply z4) <;> intro hq <;> (try simp only [zH] at hq) <;> (try (exfalso; omega))) | (with_reducible apply z5; (case hl => (repeat (first | exact .nil | with_reducible apply z6 | with_reducible apply z7))); (case h => kernel_rfl))))
  · rw [if_neg hn]
    clear hx
    by_cases h1 : a < ks.length
    · by_cases h2 : a < 30
      · rw [if_pos ⟨h1, h2⟩]
        have hk := wcs h1
        (repeat' (first | (simp -implicitDefEqProofs (maxSteps := 2000000) (disch := first | with_reducible assumption | omega | (simp only [zS, zA, seval] <;> omega) | fail) only [zS, argl, insA, Go.Den.wm, wo, wu, looks, wbb, wab, idOf, riA, seval, Go.Den.wh, kK, wif, wgb, wkb, *]) | (with_reducible (first | apply z1 | apply z2 | apply z3 | apply z4) <;> intro hq <;> (try simp only [zH] at hq) <;> (try (exfalso; omega))) | (with_reducible apply z5; (case hl => (repeat (first | exact .nil | with_reducible apply z6 | with_reducible apply z7))); (case h => kernel_rfl))))
      · rw [if_neg (fun h => h2 h.2)]
        (repeat' (first | (simp -implicitDefEqProofs (maxSteps := 2000000) (disch := first | with_reducible assumption | omega | (simp only [zS, zA, seval] <;> omega) | fail) only [zS, argl, insA, Go.Den.wm, wo, wu, looks, wbb, wab, idOf, riA, seval, Go.Den.wh, kK, wif, wgb, wkb, *]) | (with_reducible (first | apply z1 | apply z2 | apply z3 | apply z4) <;> intro hq <;> (try simp only [zH] at hq) <;> (try (exfalso; omega))) | (with_reducible apply z5; (case hl => (repeat (first | exact .nil | with_reducible apply z6 | with_reducible apply z7))); (case h => kernel_rfl))))
    · rw [if_neg (fun h => h1 h.1)]
      (repeat' (first | (simp -implicitDefEqProofs (maxSteps := 2000000) (disch := first | with_reducible assumption | omega | (simp only [zS, zA, seval] <;> omega) | fail) only [zS, argl, insA, Go.Den.wm, wo, wu, looks, wbb, wab, idOf, riA, seval, Go.Den.wh, kK, wif, wgb, wkb, *]) | (with_reducible (first | apply z1 | apply z2 | apply z3 | apply z4) <;> intro hq <;> (try simp only [zH] at hq) <;> (try (exfalso; omega))) | (with_reducible apply z5; (case hl => (repeat (first | exact .nil | with_reducible apply z6 | with_reducible apply z7))); (case h => kernel_rfl))))
theorem wtfb (s : BitVec 256) (x : Nat) (hx : x < 256) : lim Try.prog cfg (.call 162 [.int .u8 x, .pointer (some ⟨0, 0, none⟩)]) (HP [X (setC s) 44 0 true]) = some (.val (.tuple ⟨[]⟩), HP [X (setC (s ||| one x)) 44 0 true]) := by
  refine wlb hc whl (Nat.le_of_ble_eq_true rfl) (Nat.le_of_ble_eq_true rfl) ?_
  unfold wqi
  have h1 : BitVec.ofInt (IntKind.bits .u64) 1 = BitVec.ofInt (IntKind.bits .u64) (((1#64).toNat : Nat) : Int) := rfl
  have e1 : ((x : Int) / 64).toNat = x / 64 := by omega
  have e2 : ((x : Int) % 64).toNat = x % 64 := by omega
  rw [← or_one s x hx]
  have hs : IntKind.wrap .u64 (1 * 2 ^ (min (x % 64) (IntKind.bits .u64))) = ((1#64 <<< (x % 64)).toNat : Nat) := by
    have := shl_u64 (b := ((x % 64 : Nat) : Int)) (by omega) (by omega)
    rwa [Int.toNat_natCast] at this
  (repeat' (first | (simp -implicitDefEqProofs (maxSteps := 2000000) (disch := first | with_reducible assumption | omega | (simp only [zS, zA, seval, zD] <;> omega) | fail) only [zS, argl, insA, Go.Den.wm, wo, wu, looks, wbb, wab, idOf, riA, seval, Go.Den.wh, kK, wzlb, wkw, *, zT]) | (with_reducible (first | apply z1 | apply z2 | apply z3 | apply z4) <;> intro hq <;> (try simp only [zH] at hq) <;> (try (exfalso; omega)))))
  rw [or_u64, setC_set _ (by omega)]
theorem hb_put : wul Try.prog 162 = true := by kernel_rfl
theorem wuw : cfg.know 162 = none := by kernel_rfl
theorem whq {i : Nat} {args : List Value} : dynA Try.prog (.func (.func 162) ⟨[]⟩ ⟨[.pointer (some ⟨i, 0, none⟩)]⟩) args = .call 162 (args ++ [.pointer (some ⟨i, 0, none⟩)]) := by
  unfold dynA
  simp only [hb_put, cond_true, List.nil_append]
def wvbc : Nat → Nat → BitVec 256 → BitVec 256
  | 0, _, s => s
  | k + 1, i, s => wvbc k (i + 1) (s ||| one i)
abbrev bsFn : Value := .func (.func 162) ⟨[]⟩ ⟨[.pointer (some ⟨1, 0, none⟩)]⟩
theorem wkrb (z : BitVec 256) : ∀ (k i : Nat) (s : BitVec 256), i + k = 256 →
    lim Try.prog cfg (.loop 143 0 (wpc 0) (SE (EJ 47 G0) [(20, .int .i64 i), (4, bsFn), (3, .pointer (some ⟨1, 0, none⟩)), (2, .pointer (some ⟨0, 0, none⟩))])) (HP (bsB z s)) = some (.code (.exit 1) (SE (EJ 47 G0) [(3, .pointer (some ⟨1, 0, none⟩)), (2, .pointer (some ⟨0, 0, none⟩))]), HP (bsB z (wvbc k i s))) := by
  intro k
  induction k with
  | zero =>
    intro i s hi
    rw [wvbc]
    refine wib woh ?_
    unfold whg
    (repeat' (first | (simp -implicitDefEqProofs (maxSteps := 2000000) (disch := first | with_reducible assumption | omega | (simp only [zS, zA, seval, wfe, zD] <;> omega) | fail) only [zS, argl, insA, Go.Den.wm, wo, wu, looks, wbb, wab, idOf, riA, seval, Go.Den.wh, kK, wod, *, zT]) | (with_reducible (first | apply z1 | apply z2 | apply z3 | apply z4) <;> intro hq <;> (try simp only [zH] at hq) <;> (try (exfalso; omega)))))
  | succ k ih =>
    intro i s hi
    rw [wvbc]
    have h := ih (i + 1) (s ||| one i) (by omega)
    have hp := wtfb s i (by omega)
    clear ih
    refine wib woh ?_
    unfold whg
    (repeat' (first | (simp -implicitDefEqProofs (maxSteps := 2000000) (disch := first | with_reducible assumption | omega | (simp only [zS, zA, seval, wfe, zD] <;> omega) | fail) only [zS, argl, insA, Go.Den.wm, wo, wu, looks, wbb, wab, idOf, riA, seval, Go.Den.wh, kK, wod, whq, wuw, *, zT]) | (with_reducible (first | apply z1 | apply z2 | apply z3 | apply z4) <;> intro hq <;> (try simp only [zH] at hq) <;> (try (exfalso; omega)))))
    exact h
end
end Go.Proofs.Ytgpabbbibmnnlaa
namespace Go.Proofs.Ytgpabbbibmnnlaa
set_option linter.unusedVariables false
set_option linter.unusedSimpArgs false
open Go.Den
noncomputable section
def wufb : Nat → Nat → BitVec 256 → BitVec 256
  | 0, _, s => s
  | k + 1, i, s => wufb k (i + 1) (if i = 97 then s else s ||| one i)
theorem wfkb (z : BitVec 256) : ∀ (k i : Nat) (s : BitVec 256), i + k = 256 →
    lim Try.prog cfg (.loop 143 0 (wpc 1) (SE (EJ 47 G0) [(36, .int .i64 i), (4, bsFn), (3, .pointer (some ⟨1, 0, none⟩)), (2, .pointer (some ⟨0, 0, none⟩))])) (HP (bsB z s)) = some (.code (.exit 3) (SE (EJ 47 G0) [(3, .pointer (some ⟨1, 0, none⟩)), (2, .pointer (some ⟨0, 0, none⟩))]), HP (bsB z (wufb k i s))) := by
  intro k
  induction k with
  | zero =>
    intro i s hi
    rw [wufb]
    refine wib wmf ?_
    unfold wte
    (repeat' (first | (simp -implicitDefEqProofs (maxSteps := 2000000) (disch := first | with_reducible assumption | omega | (simp only [zS, zA, seval, wfe, zD] <;> omega) | fail) only [zS, argl, insA, Go.Den.wm, wo, wu, looks, wbb, wab, idOf, riA, seval, Go.Den.wh, kK, wve, *, zT]) | (with_reducible (first | apply z1 | apply z2 | apply z3 | apply z4) <;> intro hq <;> (try simp only [zH] at hq) <;> (try (exfalso; omega)))))
  | succ k ih =>
    intro i s hi
    rw [wufb]
    by_cases h97 : i = 97
    · rw [if_pos h97]
      have h := ih (i + 1) s (by omega)
      have h1 : (i : Int) = 97 := by omega
      clear ih
      subst h97
      refine wib wmf ?_
      unfold wte
      (repeat' (first | (simp -implicitDefEqProofs (maxSteps := 2000000) (disch := first | with_reducible assumption | omega | (simp only [zS, zA, seval, wfe, zD] <;> omega) | fail) only [zS, argl, insA, Go.Den.wm, wo, wu, looks, wbb, wab, idOf, riA, seval, Go.Den.wh, kK, wve, whq, wuw, *, zT]) | (with_reducible (first | apply z1 | apply z2 | apply z3 | apply z4) <;> intro hq <;> (try simp only [zH] at hq) <;> (try (exfalso; omega)))))
      all_goals exact h
    · rw [if_neg h97]
      have h1 : ¬ (i : Int) = 97 := by omega
      have h := ih (i + 1) (s ||| one i) (by omega)
      have hp := wtfb s i (by omega)
      clear ih
      refine wib wmf ?_
      unfold wte
      (repeat' (first | (simp -implicitDefEqProofs (maxSteps := 2000000) (disch := first | with_reducible assumption | omega | (simp only [zS, zA, seval, wfe, zD] <;> omega) | fail) only [zS, argl, insA, Go.Den.wm, wo, wu, looks, wbb, wab, idOf, riA, seval, Go.Den.wh, kK, wve, whq, wuw, *, zT]) | (with_reducible (first | apply z1 | apply z2 | apply z3 | apply z4) <;> intro hq <;> (try simp only [zH] at hq) <;> (try (exfalso; omega)))))
      all_goals exact h
def tb6 (k : Nat) : Nat := [97, 98, 99, 46, 42, 10].getD k 0
theorem tb6_get {k : Nat} (h : k < 6) : ([.int .u8 97, .int .u8 98, .int .u8 99, .int .u8 46, .int .u8 42, .int .u8 10] : List Value)[k]? = some (.int .u8 (tb6 k)) := by
  rcases (show k = 0 ∨ k = 1 ∨ k = 2 ∨ k = 3 ∨ k = 4 ∨ k = 5 by omega) with rfl | rfl | rfl | rfl | rfl | rfl <;> rfl
theorem tb6_lt {k : Nat} (h : k < 6) : tb6 k < 256 := by
  rcases (show k = 0 ∨ k = 1 ∨ k = 2 ∨ k = 3 ∨ k = 4 ∨ k = 5 by omega) with rfl | rfl | rfl | rfl | rfl | rfl <;> decide
theorem within5 (n : Int) : 0 ≤ wzb n 0 5 ∧ wzb n 0 5 ≤ 5 := by
  unfold wzb
  have := Int.emod_nonneg n (show (6 : Int) ≠ 0 by omega)
  have h5 := Int.emod_lt_of_pos n (show (0 : Int) < 6 by omega)
  rw [show (5 : Int) - 0 + 1 = 6 from rfl, Int.tmod_eq_emod]
  repeat' split
  all_goals omega
set_option maxHeartbeats 4000000 in
theorem wct (n : Int) : ∃ s : BitVec 256, lim Try.prog cfg (.call 143 [.int .i64 n]) (HP []) = some (.val (.agg ⟨setC s⟩), HP []) := by
  have hb0 := wkrb 0#256 256 0 0#256 (by omega)
  have hb2 := wfkb 0#256 256 0 0#256 (by omega)
  have hw := wwd (IntKind.wrap .i64 (n.tdiv 4)) 0 5 (by omega) (by omega) (by omega)
  have hw2 := wwd n 0 5 (by omega) (by omega) (by omega)
  have hin := within5 n
  have hp1 := wtfb 0#256 97 (by omega)
  have hp2 := wtfb (0#256 ||| one 97) 98 (by omega)
  have hl := tb6_lt (k := (wzb n 0 5).toNat) (by omega)
  have hp3 := wtfb 0#256 (tb6 (wzb n 0 5).toNat) hl
  have hg := tb6_get (k := (wzb n 0 5).toNat) (by omega)
  generalize wzb (IntKind.wrap .i64 (n.tdiv 4)) 0 5 = w at *
  generalize wzb n 0 5 = v at *
  generalize tb6 v.toNat = c at *
  generalize wvbc 256 0 0#256 = s0 at *
  generalize wufb 256 0 0#256 = s2 at *
  generalize 0#256 ||| one 97 ||| one 98 = s1 at *
  have hz : setC 0#256 = [.int .u64 0, .int .u64 0, .int .u64 0, .int .u64 0] := rfl
  rw [show ((0 : Nat) : Int) = 0 from rfl] at hb0 hb2
  unfold bsB at hb0 hb2
  by_cases q0 : w = 0
  · refine ⟨s0, ?_⟩
    subst q0
    clear hp1 hp2 hp3 hb2 hw2 hg
    rw [hz] at hb0
    refine wlb hc whe (Nat.le_of_ble_eq_true rfl) (Nat.le_of_ble_eq_true rfl) ?_
    unfold wee
    (repeat' (first | (simp -implicitDefEqProofs (maxSteps := 2000000) (disch := first | with_reducible assumption | omega | (simp only [zS, zA, seval, wfe, zD] <;> omega) | fail) only [zS, argl, insA, Go.Den.wm, wo, wu, looks, wbb, wab, idOf, riA, seval, Go.Den.wh, kK, wod, whq, wuw, *, zT]) | (with_reducible (first | apply z1 | apply z2 | apply z3 | apply z4) <;> intro hq <;> (try simp only [zH] at hq) <;> (try (exfalso; omega)))))
  by_cases q1 : w = 1
  · refine ⟨s1, ?_⟩
    subst q1
    clear hp3 hb2 hw2 hg hb0
    refine wlb hc whe (Nat.le_of_ble_eq_true rfl) (Nat.le_of_ble_eq_true rfl) ?_
    unfold wee
    rw [hz, show ((97 : Nat) : Int) = 97 from rfl] at hp1
    rw [show ((98 : Nat) : Int) = 98 from rfl] at hp2
    (repeat' (first | (simp -implicitDefEqProofs (maxSteps := 2000000) (disch := first | with_reducible assumption | omega | (simp only [zS, zA, seval, wfe, zD] <;> omega) | fail) only [zS, argl, insA, Go.Den.wm, wo, wu, looks, wbb, wab, idOf, riA, seval, Go.Den.wh, kK, wod, whq, wuw, *, zT]) | (with_reducible (first | apply z1 | apply z2 | apply z3 | apply z4) <;> intro hq <;> (try simp only [zH] at hq) <;> (try (exfalso; omega)))))
  by_cases q2 : w = 2
  · refine ⟨s2, ?_⟩
    subst q2
    clear hp1 hp2 hp3 hb0 hw2 hg
    rw [hz] at hb2
    refine wlb hc whe (Nat.le_of_ble_eq_true rfl) (Nat.le_of_ble_eq_true rfl) ?_
    unfold wee
    (repeat' (first | (simp -implicitDefEqProofs (maxSteps := 2000000) (disch := first | with_reducible assumption | omega | (simp only [zS, zA, seval, wfe, zD] <;> omega) | fail) only [zS, argl, insA, Go.Den.wm, wo, wu, looks, wbb, wab, idOf, riA, seval, Go.Den.wh, kK, wve, whq, wuw, *, zT]) | (with_reducible (first | apply z1 | apply z2 | apply z3 | apply z4) <;> intro hq <;> (try simp only [zH] at hq) <;> (try (exfalso; omega)))))
  refine ⟨0#256 ||| one c, ?_⟩
  clear hp1 hp2 hb0 hb2
  refine wlb hc whe (Nat.le_of_ble_eq_true rfl) (Nat.le_of_ble_eq_true rfl) ?_
  unfold wee
  rw [hz] at hp3
  (repeat' (first | (simp -implicitDefEqProofs (maxSteps := 2000000) (disch := first | with_reducible assumption | omega | (simp only [zS, zA, seval, wfe, zD] <;> omega) | fail) only [zS, argl, insA, Go.Den.wm, wo, wu, looks, wbb, wab, idOf, riA, seval, Go.Den.wh, kK, wod, whq, wuw, *, zT]) | (with_reducible (first | apply z1 | apply z2 | apply z3 | apply z4) <;> intro hq <;> (try simp only [zH] at hq) <;> (try (exfalso; omega)))))
end
end Go.Proofs.Ytgpabbbibmnnlaa
namespace Go.Den
noncomputable section
variable {P : Program}
def nfX : Option ABlk → Bool
  | some (.cells b) => isNil b.lens && (Nat.beq b.wver 0 && !b.pf)
  | _ => false
theorem wsd {cs : List Value} {t z : Nat} : nfX (some (X cs t z false)) = true := rfl
def rowU (i n k : Nat) : Option (List Value × Frs) → Option (Value × Frs)
  | some (cs, f) => bif wpb cs then some (FL n cs, (i, k) :: f) else none
  | none => none
theorem wjc {i n k : Nat} {cs : List Value} {f : Frs} : rowU i n k (some (cs, f)) = bif wpb cs then some (FL n cs, (i, k) :: f) else none := rfl
def rowT (P : Program) (i n c : Nat) (sl : List Value → Option (List Value × Frs)) : Option ABlk → Option (Value × Frs)
  | some (.cells b) => bif Nat.ble n c && (Nat.blt 0 (tsz P b.elem) && Nat.ble (n * tsz P b.elem) b.cells.length) then rowU i n (n * tsz P b.elem) (sl (slotsOf b.cells 0 (n * tsz P b.elem))) else none
  | _ => none
theorem wuf {i n c : Nat} {sl : List Value → Option (List Value × Frs)} {cs : List Value} {t z : Nat} {pf : Bool} : rowT P i n c sl (some (X cs t z pf)) = bif Nat.ble n c && (Nat.blt 0 (tsz P t) && Nat.ble (n * tsz P t) cs.length) then rowU i n (n * tsz P t) (sl (slotsOf cs 0 (n * tsz P t))) else none := rfl
theorem wkc {h : List ABlk} (hh : h.length ≤ 1099511627774) {i n c : Nat} {sl : List Value → Option (List Value × Frs)} (hx : nfX h[i]? = true) :
    wie P (HP h) sl (.slice (some ⟨i, 0, none⟩) (n + 1) (c + 1)) = rowT P i (n + 1) c sl h[i]? := by
  show wfl P (HP h) sl ⟨i, 0, none⟩ (n + 1) (c + 1) = _
  unfold wfl
  rw [wmh h hh]
  cases hb : h[i]? with
  | none => rw [hb] at hx; cases hx
  | some b =>
    rw [hb] at hx
    cases b with
    | map es => cases hx
    | tok a b c => cases hx
    | cells b =>
      have hx : (isNil b.lens && (Nat.beq b.wver 0 && !b.pf)) = true := hx
      simp only [Bool.and_eq_true, Nat.beq_eq, Bool.not_eq_true'] at hx
      obtain ⟨h3, h4, h7⟩ := hx
      have h5 : b.lens = [] := by cases hl : b.lens with | nil => rfl | cons a r => rw [hl] at h3; cases h3
      have e0 : wsf P b = tsz P b.elem := by unfold wsf; rw [h5]; rfl
      have hi : wwb i = true := wvg (by have := wrr hb; omega)
      have h6 : rdOk b (aver ⟨i, 0, none⟩) (0 + (n + 1) * tsz P b.elem) = Nat.ble ((n + 1) * tsz P b.elem) b.cells.length := by
        unfold rdOk
        have e1 : b.top = 0 := by unfold CBlk.top; rw [h5]; rfl
        have e2 : b.lenAt 0 = b.cells.length := by unfold CBlk.lenAt; rw [h5]
        rw [h4, e1]
        show (Nat.ble 0 0 && (Nat.ble 0 0 && Nat.ble (0 + (n + 1) * tsz P b.elem) (b.lenAt 0))) = _
        rw [e2, Nat.zero_add, nble 0 0]
        simp
      simp only [e0, h6, h7, cond_false]
      show (bif (Nat.ble (n + 1) c && Nat.blt 0 (tsz P b.elem)) && Nat.ble ((n + 1) * tsz P b.elem) b.cells.length then _ else none) = (bif Nat.ble (n + 1) c && (Nat.blt 0 (tsz P b.elem) && Nat.ble ((n + 1) * tsz P b.elem) b.cells.length) then _ else none)
      rw [Bool.and_assoc]
      cases (Nat.ble (n + 1) c && (Nat.blt 0 (tsz P b.elem) && Nat.ble ((n + 1) * tsz P b.elem) b.cells.length)) with
      | false => rfl
      | true =>
        simp only [cond_true, hi, Bool.and_true, Nat.zero_add]
        cases sl (slotsOf b.cells 0 ((n + 1) * tsz P b.elem)) <;> rfl
end
end Go.Den
namespace Go.Proofs.Ytgpabbbibmnnlaa
set_option linter.unusedVariables false
set_option linter.unusedSimpArgs false
open Go.Den
noncomputable section
def MkOk (ks ns : List Int) (ere : Bool) (f : FuncId) (args : List Value) (M : Nat) : Prop :=
  ∀ (a : Nat) (g l : Int), a + M ≤ 100000 → 0 ≤ g → g ≤ 3 → -1000000 + 2 * (M : Int) ≤ l → l ≤ 1000 →
    ∃ (r : Rx) (a' : Nat) (g' l' : Int), lim Try.prog cfg (.call f (.agg ⟨mkB ks ns ere⟩ :: args)) (HP (mkH a g l)) = some (.val (.agg ⟨rxC r⟩), HP (mkH a' g' l')) ∧ wfc r ≤ M ∧ a' ≤ a + M ∧ 0 ≤ g' ∧ g' ≤ 3 ∧ l - 2 * (M : Int) ≤ l' ∧ l' ≤ l
theorem wko (n : Int) : 0 ≤ wzb n 0 2 ∧ wzb n 0 2 ≤ 2 := by
  unfold wzb
  have := Int.emod_nonneg n (show (3 : Int) ≠ 0 by omega)
  have h5 := Int.emod_lt_of_pos n (show (0 : Int) < 3 by omega)
  rw [show (2 : Int) - 0 + 1 = 3 from rfl, Int.tmod_eq_emod]
  repeat' split
  all_goals omega
theorem wgkb {k n : Int} {s : BitVec 256} : rxC (.mk k 0 0 n s []) = [.int .i64 k, .int .i64 0, .int .i64 0, .int .i64 n, wdV s 0, wdV s 1, wdV s 2, wdV s 3, FL 0 []] := by rw [rxC, rxsC]; rfl
theorem wxm {k lo hi n : Int} {r : Rx} : rxC (.mk k lo hi n 0#256 [r]) = [.int .i64 k, .int .i64 lo, .int .i64 hi, .int .i64 n, .int .u64 0, .int .u64 0, .int .u64 0, .int .u64 0, FL 1 (rxC r)] := by rw [rxC, rxsC, rxsC, List.append_nil]; rfl
def wwbc (ks ns : List Int) (ere : Bool) (f : FuncId) (args : List Value) (M : Nat) : Prop :=
  ∀ (a : Nat) (g l : Int), a + M ≤ 100000 → 0 ≤ g → g ≤ 3 → -1000000 + 2 * (M : Int) ≤ l → l ≤ 1000 →
    ∃ (r : Rx) (a' : Nat) (g' l' : Int), lim Try.prog cfg (.call f (.agg ⟨mkB ks ns ere⟩ :: args)) (HP (mkH a g l)) = some (.val (.agg ⟨rxC r⟩), HP (mkH a' g' l')) ∧ wfc r ≤ M ∧ r.kind ≠ 2 ∧ a' ≤ a + M ∧ 0 ≤ g' ∧ g' ≤ 3 ∧ l - 2 * (M : Int) ≤ l' ∧ l' ≤ l
theorem whkb {k n : Int} : rxC (.mk k 0 0 n 0#256 []) = [.int .i64 k, .int .i64 0, .int .i64 0, .int .i64 n, .int .u64 0, .int .u64 0, .int .u64 0, .int .u64 0, FL 0 []] := by rw [rxC, rxsC]; rfl
set_option maxHeartbeats 8000000 in
theorem part_set (ks ns : List Int) (ere : Bool) (deep : Int) (hd : 0 ≤ deep) (hd2 : deep ≤ 3) (a : Nat) (ha : a ≤ 100000) (g l : Int) (hg : 0 ≤ g) (hg3 : g ≤ 3) (hl : -1000000 ≤ l) (hl2 : l ≤ 1000)
    (hno : ¬ (6 ≤ wzb (woj ks a) 0 9 ∧ 3 < l - 2 ∧ deep < 3 ∧ g < 3)) (hno2 : ¬ (wzb (woj ks a) 0 9 = 5 ∧ 0 < g)) :
    ∃ (r : Rx), lim Try.prog cfg (.call 113 [.agg ⟨mkB ks ns ere⟩, .int .i64 deep]) (HP (mkH a g l)) = some (.val (.agg ⟨rxC r⟩), HP (mkH (a + 1 : Nat) g (l - 2))) ∧ wfc r ≤ 2 ∧ r.kind ≠ 2 := by
  have h1 := wtw ks ns ere a (by omega) g l
  obtain ⟨s, h2⟩ := wct (wrf ns a)
  have h3 := wwd (woj ks a) 0 9 (by omega) (by omega) (by omega)
  have h4 := wwd (wrf ns a) 0 2 (by omega) (by omega) (by omega)
  have h5 := wwd (IntKind.wrap .i64 ((wrf ns a).tdiv 8)) 0 2 (by omega) (by omega) (by omega)
  have i4 := wko (wrf ns a)
  have i5 := wko (IntKind.wrap .i64 ((wrf ns a).tdiv 8))
  generalize wzb (woj ks a) 0 9 = c at *
  generalize wzb (wrf ns a) 0 2 = lo at *
  generalize wzb (IntKind.wrap .i64 ((wrf ns a).tdiv 8)) 0 2 = up at *
  generalize woj ks a = x at *
  generalize wrf ns a = y at *
  obtain ⟨e, he⟩ : ∃ e, IntKind.wrap .i64 ((BitVec.ofInt (IntKind.bits .i64) c &&& BitVec.ofInt (IntKind.bits .i64) 1).toNat : Int) = e := ⟨_, rfl⟩
  obtain ⟨f, hf⟩ : ∃ f, IntKind.wrap .i64 ((BitVec.ofInt (IntKind.bits .i64) y &&& BitVec.ofInt (IntKind.bits .i64) 4).toNat : Int) = f := ⟨_, rfl⟩
  by_cases q : e = 0
  · refine ⟨(.mk 1 0 0 0 s []), ?_, by simp [wfc, wjb], by simp [Rx.kind]⟩
    rw [wgkb]
    subst q
    clear h4 h5 i4 i5 hf
    refine wlb hc wrb (Nat.le_of_ble_eq_true rfl) (Nat.le_of_ble_eq_true rfl) ?_
    unfold wvb
    by_cases c6 : 6 ≤ c
    · by_cases l3 : 3 < l - 2
      · by_cases d3 : deep < 3
        · have g3 : ¬ g < 3 := fun h => hno ⟨c6, l3, d3, h⟩
          clear hno hno2
          (repeat' (first | (simp -implicitDefEqProofs (maxSteps := 2000000) (disch := first | with_reducible assumption | omega | (simp only [zS, zA, seval, wfe, wqh, wsd, zD] <;> omega) | fail) only [zS, argl, insA, Go.Den.wm, wo, wu, looks, wbb, wab, idOf, riA, seval, Go.Den.wh, kK, wgb, wkb, wdd, wkc, wsd, wuf, wjc, *, zT]) | (with_reducible (first | apply z1 | apply z2 | apply z3 | apply z4) <;> intro hq <;> (try simp only [zH] at hq) <;> (try (exfalso; omega))) | (with_reducible apply z5; (case hl => (repeat (first | exact .nil | with_reducible apply z6 | with_reducible apply z7))); (case h => kernel_rfl))))
        · clear hno hno2
          (repeat' (first | (simp -implicitDefEqProofs (maxSteps := 2000000) (disch := first | with_reducible assumption | omega | (simp only [zS, zA, seval, wfe, wqh, wsd, zD] <;> omega) | fail) only [zS, argl, insA, Go.Den.wm, wo, wu, looks, wbb, wab, idOf, riA, seval, Go.Den.wh, kK, wgb, wkb, wdd, wkc, wsd, wuf, wjc, *, zT]) | (with_reducible (first | apply z1 | apply z2 | apply z3 | apply z4) <;> intro hq <;> (try simp only [zH] at hq) <;> (try (exfalso; omega))) | (with_reducible apply z5; (case hl => (repeat (first | exact .nil | with_reducible apply z6 | with_reducible apply z7))); (case h => kernel_rfl))))
      · clear hno hno2
        (repeat' (first | (simp -implicitDefEqProofs (maxSteps := 2000000) (disch := first | with_reducible assumption | omega | (simp only [zS, zA, seval, wfe, wqh, wsd, zD] <;> omega) | fail) only [zS, argl, insA, Go.Den.wm, wo, wu, looks, wbb, wab, idOf, riA, seval, Go.Den.wh, kK, wgb, wkb, wdd, wkc, wsd, wuf, wjc, *, zT]) | (with_reducible (first | apply z1 | apply z2 | apply z3 | apply z4) <;> intro hq <;> (try simp only [zH] at hq) <;> (try (exfalso; omega))) | (with_reducible apply z5; (case hl => (repeat (first | exact .nil | with_reducible apply z6 | with_reducible apply z7))); (case h => kernel_rfl))))
    · clear hno
      by_cases c5 : c = 5
      · have g0 : ¬ 0 < g := fun h => hno2 ⟨c5, h⟩
        clear hno2
        subst c5
        (repeat' (first | (simp -implicitDefEqProofs (maxSteps := 2000000) (disch := first | with_reducible assumption | omega | (simp only [zS, zA, seval, wfe, wqh, wsd, zD] <;> omega) | fail) only [zS, argl, insA, Go.Den.wm, wo, wu, looks, wbb, wab, idOf, riA, seval, Go.Den.wh, kK, wgb, wkb, wdd, wkc, wsd, wuf, wjc, *, zT]) | (with_reducible (first | apply z1 | apply z2 | apply z3 | apply z4) <;> intro hq <;> (try simp only [zH] at hq) <;> (try (exfalso; omega))) | (with_reducible apply z5; (case hl => (repeat (first | exact .nil | with_reducible apply z6 | with_reducible apply z7))); (case h => kernel_rfl))))
      · clear hno2
        (repeat' (first | (simp -implicitDefEqProofs (maxSteps := 2000000) (disch := first | with_reducible assumption | omega | (simp only [zS, zA, seval, wfe, wqh, wsd, zD] <;> omega) | fail) only [zS, argl, insA, Go.Den.wm, wo, wu, looks, wbb, wab, idOf, riA, seval, Go.Den.wh, kK, wgb, wkb, wdd, wkc, wsd, wuf, wjc, *, zT]) | (with_reducible (first | apply z1 | apply z2 | apply z3 | apply z4) <;> intro hq <;> (try simp only [zH] at hq) <;> (try (exfalso; omega))) | (with_reducible apply z5; (case hl => (repeat (first | exact .nil | with_reducible apply z6 | with_reducible apply z7))); (case h => kernel_rfl))))
  by_cases f4 : f = 4
  · refine ⟨.mk 4 lo (max lo 1 + up) 0 0#256 [(.mk 1 0 0 0 s [])], ?_, by simp [wfc, wjb], by simp [Rx.kind]⟩
    rw [wxm, wgkb]
    subst f4
    refine wlb hc wrb (Nat.le_of_ble_eq_true rfl) (Nat.le_of_ble_eq_true rfl) ?_
    unfold wvb
    by_cases c6 : 6 ≤ c
    · by_cases l3 : 3 < l - 2
      · by_cases d3 : deep < 3
        · have g3 : ¬ g < 3 := fun h => hno ⟨c6, l3, d3, h⟩
          clear hno hno2
          (repeat' (first | (simp -implicitDefEqProofs (maxSteps := 2000000) (disch := first | with_reducible assumption | omega | (simp only [zS, zA, seval, wfe, wqh, wsd, zD] <;> omega) | fail) only [zS, argl, insA, Go.Den.wm, wo, wu, looks, wbb, wab, idOf, riA, seval, Go.Den.wh, kK, wgb, wkb, wdd, wkc, wsd, wuf, wjc, *, zT]) | (with_reducible (first | apply z1 | apply z2 | apply z3 | apply z4) <;> intro hq <;> (try simp only [zH] at hq) <;> (try (exfalso; omega))) | (with_reducible apply z5; (case hl => (repeat (first | exact .nil | with_reducible apply z6 | with_reducible apply z7))); (case h => kernel_rfl))))
        · clear hno hno2
          (repeat' (first | (simp -implicitDefEqProofs (maxSteps := 2000000) (disch := first | with_reducible assumption | omega | (simp only [zS, zA, seval, wfe, wqh, wsd, zD] <;> omega) | fail) only [zS, argl, insA, Go.Den.wm, wo, wu, looks, wbb, wab, idOf, riA, seval, Go.Den.wh, kK, wgb, wkb, wdd, wkc, wsd, wuf, wjc, *, zT]) | (with_reducible (first | apply z1 | apply z2 | apply z3 | apply z4) <;> intro hq <;> (try simp only [zH] at hq) <;> (try (exfalso; omega))) | (with_reducible apply z5; (case hl => (repeat (first | exact .nil | with_reducible apply z6 | with_reducible apply z7))); (case h => kernel_rfl))))
      · clear hno hno2
        (repeat' (first | (simp -implicitDefEqProofs (maxSteps := 2000000) (disch := first | with_reducible assumption | omega | (simp only [zS, zA, seval, wfe, wqh, wsd, zD] <;> omega) | fail) only [zS, argl, insA, Go.Den.wm, wo, wu, looks, wbb, wab, idOf, riA, seval, Go.Den.wh, kK, wgb, wkb, wdd, wkc, wsd, wuf, wjc, *, zT]) | (with_reducible (first | apply z1 | apply z2 | apply z3 | apply z4) <;> intro hq <;> (try simp only [zH] at hq) <;> (try (exfalso; omega))) | (with_reducible apply z5; (case hl => (repeat (first | exact .nil | with_reducible apply z6 | with_reducible apply z7))); (case h => kernel_rfl))))
    · clear hno
      by_cases c5 : c = 5
      · have g0 : ¬ 0 < g := fun h => hno2 ⟨c5, h⟩
        clear hno2
        subst c5
        (repeat' (first | (simp -implicitDefEqProofs (maxSteps := 2000000) (disch := first | with_reducible assumption | omega | (simp only [zS, zA, seval, wfe, wqh, wsd, zD] <;> omega) | fail) only [zS, argl, insA, Go.Den.wm, wo, wu, looks, wbb, wab, idOf, riA, seval, Go.Den.wh, kK, wgb, wkb, wdd, wkc, wsd, wuf, wjc, *, zT]) | (with_reducible (first | apply z1 | apply z2 | apply z3 | apply z4) <;> intro hq <;> (try simp only [zH] at hq) <;> (try (exfalso; omega))) | (with_reducible apply z5; (case hl => (repeat (first | exact .nil | with_reducible apply z6 | with_reducible apply z7))); (case h => kernel_rfl))))
      · clear hno2
        (repeat' (first | (simp -implicitDefEqProofs (maxSteps := 2000000) (disch := first | with_reducible assumption | omega | (simp only [zS, zA, seval, wfe, wqh, wsd, zD] <;> omega) | fail) only [zS, argl, insA, Go.Den.wm, wo, wu, looks, wbb, wab, idOf, riA, seval, Go.Den.wh, kK, wgb, wkb, wdd, wkc, wsd, wuf, wjc, *, zT]) | (with_reducible (first | apply z1 | apply z2 | apply z3 | apply z4) <;> intro hq <;> (try simp only [zH] at hq) <;> (try (exfalso; omega))) | (with_reducible apply z5; (case hl => (repeat (first | exact .nil | with_reducible apply z6 | with_reducible apply z7))); (case h => kernel_rfl))))
  refine ⟨.mk 4 lo (-1) 0 0#256 [(.mk 1 0 0 0 s [])], ?_, by simp [wfc, wjb], by simp [Rx.kind]⟩
  rw [wxm, wgkb]
  clear h5 i5
  refine wlb hc wrb (Nat.le_of_ble_eq_true rfl) (Nat.le_of_ble_eq_true rfl) ?_
  unfold wvb
  by_cases c6 : 6 ≤ c
  · by_cases l3 : 3 < l - 2
    · by_cases d3 : deep < 3
      · have g3 : ¬ g < 3 := fun h => hno ⟨c6, l3, d3, h⟩
        clear hno hno2
        (repeat' (first | (simp -implicitDefEqProofs (maxSteps := 2000000) (disch := first | with_reducible assumption | omega | (simp only [zS, zA, seval, wfe, wqh, wsd, zD] <;> omega) | fail) only [zS, argl, insA, Go.Den.wm, wo, wu, looks, wbb, wab, idOf, riA, seval, Go.Den.wh, kK, wgb, wkb, wdd, wkc, wsd, wuf, wjc, *, zT]) | (with_reducible (first | apply z1 | apply z2 | apply z3 | apply z4) <;> intro hq <;> (try simp only [zH] at hq) <;> (try (exfalso; omega))) | (with_reducible apply z5; (case hl => (repeat (first | exact .nil | with_reducible apply z6 | with_reducible apply z7))); (case h => kernel_rfl))))
      · clear hno hno2
        (repeat' (first | (simp -implicitDefEqProofs (maxSteps := 2000000) (disch := first | with_reducible assumption | omega | (simp only [zS, zA, seval, wfe, wqh, wsd, zD] <;> omega) | fail) only [zS, argl, insA, Go.Den.wm, wo, wu, looks, wbb, wab, idOf, riA, seval, Go.Den.wh, kK, wgb, wkb, wdd, wkc, wsd, wuf, wjc, *, zT]) | (with_reducible (first | apply z1 | apply z2 | apply z3 | apply z4) <;> intro hq <;> (try simp only [zH] at hq) <;> (try (exfalso; omega))) | (with_reducible apply z5; (case hl => (repeat (first | exact .nil | with_reducible apply z6 | with_reducible apply z7))); (case h => kernel_rfl))))
    · clear hno hno2
      (repeat' (first | (simp -implicitDefEqProofs (maxSteps := 2000000) (disch := first | with_reducible assumption | omega | (simp only [zS, zA, seval, wfe, wqh, wsd, zD] <;> omega) | fail) only [zS, argl, insA, Go.Den.wm, wo, wu, looks, wbb, wab, idOf, riA, seval, Go.Den.wh, kK, wgb, wkb, wdd, wkc, wsd, wuf, wjc, *, zT]) | (with_reducible (first | apply z1 | apply z2 | apply z3 | apply z4) <;> intro hq <;> (try simp only [zH] at hq) <;> (try (exfalso; omega))) | (with_reducible apply z5; (case hl => (repeat (first | exact .nil | with_reducible apply z6 | with_reducible apply z7))); (case h => kernel_rfl))))
  · clear hno
    by_cases c5 : c = 5
    · have g0 : ¬ 0 < g := fun h => hno2 ⟨c5, h⟩
      clear hno2
      subst c5
      (repeat' (first | (simp -implicitDefEqProofs (maxSteps := 2000000) (disch := first | with_reducible assumption | omega | (simp only [zS, zA, seval, wfe, wqh, wsd, zD] <;> omega) | fail) only [zS, argl, insA, Go.Den.wm, wo, wu, looks, wbb, wab, idOf, riA, seval, Go.Den.wh, kK, wgb, wkb, wdd, wkc, wsd, wuf, wjc, *, zT]) | (with_reducible (first | apply z1 | apply z2 | apply z3 | apply z4) <;> intro hq <;> (try simp only [zH] at hq) <;> (try (exfalso; omega))) | (with_reducible apply z5; (case hl => (repeat (first | exact .nil | with_reducible apply z6 | with_reducible apply z7))); (case h => kernel_rfl))))
    · clear hno2
      (repeat' (first | (simp -implicitDefEqProofs (maxSteps := 2000000) (disch := first | with_reducible assumption | omega | (simp only [zS, zA, seval, wfe, wqh, wsd, zD] <;> omega) | fail) only [zS, argl, insA, Go.Den.wm, wo, wu, looks, wbb, wab, idOf, riA, seval, Go.Den.wh, kK, wgb, wkb, wdd, wkc, wsd, wuf, wjc, *, zT]) | (with_reducible (first | apply z1 | apply z2 | apply z3 | apply z4) <;> intro hq <;> (try simp only [zH] at hq) <;> (try (exfalso; omega))) | (with_reducible apply z5; (case hl => (repeat (first | exact .nil | with_reducible apply z6 | with_reducible apply z7))); (case h => kernel_rfl))))
end
end Go.Proofs.Ytgpabbbibmnnlaa
namespace Go.Proofs.Ytgpabbbibmnnlaa
set_option linter.unusedVariables false
set_option linter.unusedSimpArgs false
open Go.Den
noncomputable section
set_option maxHeartbeats 8000000 in
theorem wxbc (ks ns : List Int) (ere : Bool) (deep : Int) (hd : 0 ≤ deep) (hd2 : deep ≤ 3) (a : Nat) (ha : a ≤ 100000) (g l : Int) (hg : 0 ≤ g) (hg3 : g ≤ 3) (hl : -1000000 ≤ l) (hl2 : l ≤ 1000)
    (hyes : wzb (woj ks a) 0 9 = 5 ∧ 0 < g) :
    ∃ (r : Rx), lim Try.prog cfg (.call 113 [.agg ⟨mkB ks ns ere⟩, .int .i64 deep]) (HP (mkH a g l)) = some (.val (.agg ⟨rxC r⟩), HP (mkH (a + 1 : Nat) g (l - 2))) ∧ wfc r ≤ 2 ∧ r.kind ≠ 2 := by
  have h1 := wtw ks ns ere a (by omega) g l
  obtain ⟨s, h2⟩ := wct (wrf ns a)
  have h3 := wwd (woj ks a) 0 9 (by omega) (by omega) (by omega)
  have h4 := wwd (wrf ns a) 0 2 (by omega) (by omega) (by omega)
  have h5 := wwd (IntKind.wrap .i64 ((wrf ns a).tdiv 8)) 0 2 (by omega) (by omega) (by omega)
  have i4 := wko (wrf ns a)
  have i5 := wko (IntKind.wrap .i64 ((wrf ns a).tdiv 8))
  have h6 := wwd (wrf ns a) 1 g (by omega) (by omega) (by omega)
  generalize wzb (wrf ns a) 1 g = qq at *
  generalize wzb (woj ks a) 0 9 = c at *
  generalize wzb (wrf ns a) 0 2 = lo at *
  generalize wzb (IntKind.wrap .i64 ((wrf ns a).tdiv 8)) 0 2 = up at *
  generalize woj ks a = x at *
  generalize wrf ns a = y at *
  obtain ⟨e, he⟩ : ∃ e, IntKind.wrap .i64 ((BitVec.ofInt (IntKind.bits .i64) c &&& BitVec.ofInt (IntKind.bits .i64) 1).toNat : Int) = e := ⟨_, rfl⟩
  obtain ⟨f, hf⟩ : ∃ f, IntKind.wrap .i64 ((BitVec.ofInt (IntKind.bits .i64) y &&& BitVec.ofInt (IntKind.bits .i64) 4).toNat : Int) = f := ⟨_, rfl⟩
  obtain ⟨c5, g0⟩ := hyes
  subst c5
  by_cases q : e = 0
  · refine ⟨(.mk 6 0 0 qq 0#256 []), ?_, by simp [wfc, wjb], by simp [Rx.kind]⟩
    rw [whkb]
    subst q
    clear h4 h5 i4 i5 hf
    refine wlb hc wrb (Nat.le_of_ble_eq_true rfl) (Nat.le_of_ble_eq_true rfl) ?_
    unfold wvb
    all_goals (repeat' (first | (simp -implicitDefEqProofs (maxSteps := 2000000) (disch := first | with_reducible assumption | omega | (simp only [zS, zA, seval, wfe, wqh, wsd, zD] <;> omega) | fail) only [zS, argl, insA, Go.Den.wm, wo, wu, looks, wbb, wab, idOf, riA, seval, Go.Den.wh, kK, wgb, wkb, wdd, wkc, wsd, wuf, wjc, *, zT]) | (with_reducible (first | apply z1 | apply z2 | apply z3 | apply z4) <;> intro hq <;> (try simp only [zH] at hq) <;> (try (exfalso; omega))) | (with_reducible apply z5; (case hl => (repeat (first | exact .nil | with_reducible apply z6 | with_reducible apply z7))); (case h => kernel_rfl))))
  by_cases f4 : f = 4
  · refine ⟨.mk 4 lo (max lo 1 + up) 0 0#256 [(.mk 6 0 0 qq 0#256 [])], ?_, by simp [wfc, wjb], by simp [Rx.kind]⟩
    rw [wxm, whkb]
    subst f4
    refine wlb hc wrb (Nat.le_of_ble_eq_true rfl) (Nat.le_of_ble_eq_true rfl) ?_
    unfold wvb
    all_goals (repeat' (first | (simp -implicitDefEqProofs (maxSteps := 2000000) (disch := first | with_reducible assumption | omega | (simp only [zS, zA, seval, wfe, wqh, wsd, zD] <;> omega) | fail) only [zS, argl, insA, Go.Den.wm, wo, wu, looks, wbb, wab, idOf, riA, seval, Go.Den.wh, kK, wgb, wkb, wdd, wkc, wsd, wuf, wjc, *, zT]) | (with_reducible (first | apply z1 | apply z2 | apply z3 | apply z4) <;> intro hq <;> (try simp only [zH] at hq) <;> (try (exfalso; omega))) | (with_reducible apply z5; (case hl => (repeat (first | exact .nil | with_reducible apply z6 | with_reducible apply z7))); (case h => kernel_rfl))))
  refine ⟨.mk 4 lo (-1) 0 0#256 [(.mk 6 0 0 qq 0#256 [])], ?_, by simp [wfc, wjb], by simp [Rx.kind]⟩
  rw [wxm, whkb]
  clear h5 i5
  refine wlb hc wrb (Nat.le_of_ble_eq_true rfl) (Nat.le_of_ble_eq_true rfl) ?_
  unfold wvb
  all_goals (repeat' (first | (simp -implicitDefEqProofs (maxSteps := 2000000) (disch := first | with_reducible assumption | omega | (simp only [zS, zA, seval, wfe, wqh, wsd, zD] <;> omega) | fail) only [zS, argl, insA, Go.Den.wm, wo, wu, looks, wbb, wab, idOf, riA, seval, Go.Den.wh, kK, wgb, wkb, wdd, wkc, wsd, wuf, wjc, *, zT]) | (with_reducible (first | apply z1 | apply z2 | apply z3 | apply z4) <;> intro hq <;> (try simp only [zH] at hq) <;> (try (exfalso; omega))) | (with_reducible apply z5; (case hl => (repeat (first | exact .nil | with_reducible apply z6 | with_reducible apply z7))); (case h => kernel_rfl))))
end
end Go.Proofs.Ytgpabbbibmnnlaa
namespace Go.Proofs.Ytgpabbbibmnnlaa
set_option linter.unusedVariables false
set_option linter.unusedSimpArgs false
open Go.Den
noncomputable section
set_option maxHeartbeats 8000000 in
theorem wlrb (ks ns : List Int) (ere : Bool) (deep : Int) (hd : 0 ≤ deep) (hd2 : deep ≤ 3) (M : Nat) (hrow : MkOk ks ns ere 68 [.int .i64 (deep + 1)] M) (a : Nat) (ha : a + M + 2 ≤ 100000) (g l : Int) (hg : 0 ≤ g) (hg3 : g ≤ 3) (hl : -1000000 + 2 * (M : Int) + 4 ≤ l) (hl2 : l ≤ 1000)
    (hyes : 6 ≤ wzb (woj ks a) 0 9 ∧ 3 < l - 2 ∧ deep < 3 ∧ g < 3) :
    ∃ (r : Rx) (a' : Nat) (g' l' : Int), lim Try.prog cfg (.call 113 [.agg ⟨mkB ks ns ere⟩, .int .i64 deep]) (HP (mkH a g l)) = some (.val (.agg ⟨rxC r⟩), HP (mkH a' g' l')) ∧ wfc r ≤ M + 2 ∧ r.kind ≠ 2 ∧ a' ≤ a + M + 2 ∧ 0 ≤ g' ∧ g' ≤ 3 ∧ l - 2 * (M : Int) - 4 ≤ l' ∧ l' ≤ l := by
  obtain ⟨c6, l3, d3, g3⟩ := hyes
  obtain ⟨r0, a2, g2, l2, hr, n0, b1, b2, b3, b4, b5⟩ := hrow (a + 1) (g + 1) (l - 2) (by omega) (by omega) (by omega) (by omega) (by omega)
  clear hrow
  have h1 := wtw ks ns ere a (by omega) g l
  obtain ⟨s, h2⟩ := wct (wrf ns a)
  have h3 := wwd (woj ks a) 0 9 (by omega) (by omega) (by omega)
  have h4 := wwd (wrf ns a) 0 2 (by omega) (by omega) (by omega)
  have h5 := wwd (IntKind.wrap .i64 ((wrf ns a).tdiv 8)) 0 2 (by omega) (by omega) (by omega)
  have i4 := wko (wrf ns a)
  have i5 := wko (IntKind.wrap .i64 ((wrf ns a).tdiv 8))
  generalize wzb (woj ks a) 0 9 = c at *
  generalize wzb (wrf ns a) 0 2 = lo at *
  generalize wzb (IntKind.wrap .i64 ((wrf ns a).tdiv 8)) 0 2 = up at *
  generalize woj ks a = x at *
  generalize wrf ns a = y at *
  obtain ⟨e, he⟩ : ∃ e, IntKind.wrap .i64 ((BitVec.ofInt (IntKind.bits .i64) c &&& BitVec.ofInt (IntKind.bits .i64) 1).toNat : Int) = e := ⟨_, rfl⟩
  obtain ⟨f, hf⟩ : ∃ f, IntKind.wrap .i64 ((BitVec.ofInt (IntKind.bits .i64) y &&& BitVec.ofInt (IntKind.bits .i64) 4).toNat : Int) = f := ⟨_, rfl⟩
  by_cases q : e = 0
  · refine ⟨.mk 5 0 0 (g + 1) 0#256 [r0], a2, g2, l2, ?_, by rw [wfc, wjb, wjb]; omega, by simp [Rx.kind], by omega, b2, b3, by omega, by omega⟩
    rw [wxm]
    subst q
    clear h4 h5 i4 i5 hf
    refine wlb hc wrb (Nat.le_of_ble_eq_true rfl) (Nat.le_of_ble_eq_true rfl) ?_
    unfold wvb
    all_goals (repeat' (first | (simp -implicitDefEqProofs (maxSteps := 2000000) (disch := first | with_reducible assumption | omega | (simp only [zS, zA, seval, wfe, wqh, wsd, zD] <;> omega) | fail) only [zS, argl, insA, Go.Den.wm, wo, wu, looks, wbb, wab, idOf, riA, seval, Go.Den.wh, kK, wgb, wkb, wdd, wkc, wsd, wuf, wjc, *, zT]) | (with_reducible (first | apply z1 | apply z2 | apply z3 | apply z4) <;> intro hq <;> (try simp only [zH] at hq) <;> (try (exfalso; omega))) | (with_reducible apply z5; (case hl => (repeat (first | exact .nil | with_reducible apply z6 | with_reducible apply z7))); (case h => kernel_rfl))))
  by_cases f4 : f = 4
  · refine ⟨.mk 4 lo (max lo 1 + up) 0 0#256 [.mk 5 0 0 (g + 1) 0#256 [r0]], a2, g2, l2, ?_, by rw [wfc, wjb, wjb, wfc, wjb, wjb]; omega, by simp [Rx.kind], by omega, b2, b3, by omega, by omega⟩
    rw [wxm, wxm]
    subst f4
    refine wlb hc wrb (Nat.le_of_ble_eq_true rfl) (Nat.le_of_ble_eq_true rfl) ?_
    unfold wvb
    all_goals (repeat' (first | (simp -implicitDefEqProofs (maxSteps := 2000000) (disch := first | with_reducible assumption | omega | (simp only [zS, zA, seval, wfe, wqh, wsd, zD] <;> omega) | fail) only [zS, argl, insA, Go.Den.wm, wo, wu, looks, wbb, wab, idOf, riA, seval, Go.Den.wh, kK, wgb, wkb, wdd, wkc, wsd, wuf, wjc, *, zT]) | (with_reducible (first | apply z1 | apply z2 | apply z3 | apply z4) <;> intro hq <;> (try simp only [zH] at hq) <;> (try (exfalso; omega))) | (with_reducible apply z5; (case hl => (repeat (first | exact .nil | with_reducible apply z6 | with_reducible apply z7))); (case h => kernel_rfl))))
  refine ⟨.mk 4 lo (-1) 0 0#256 [.mk 5 0 0 (g + 1) 0#256 [r0]], a2, g2, l2, ?_, by rw [wfc, wjb, wjb, wfc, wjb, wjb]; omega, by simp [Rx.kind], by omega, b2, b3, by omega, by omega⟩
  rw [wxm, wxm]
  clear h5 i5
  refine wlb hc wrb (Nat.le_of_ble_eq_true rfl) (Nat.le_of_ble_eq_true rfl) ?_
  unfold wvb
  all_goals (repeat' (first | (simp -implicitDefEqProofs (maxSteps := 2000000) (disch := first | with_reducible assumption | omega | (simp only [zS, zA, seval, wfe, wqh, wsd, zD] <;> omega) | fail) only [zS, argl, insA, Go.Den.wm, wo, wu, looks, wbb, wab, idOf, riA, seval, Go.Den.wh, kK, wgb, wkb, wdd, wkc, wsd, wuf, wjc, *, zT]) | (with_reducible (first | apply z1 | apply z2 | apply z3 | apply z4) <;> intro hq <;> (try simp only [zH] at hq) <;> (try (exfalso; omega))) | (with_reducible apply z5; (case hl => (repeat (first | exact .nil | with_reducible apply z6 | with_reducible apply z7))); (case h => kernel_rfl))))
end
end Go.Proofs.Ytgpabbbibmnnlaa
namespace Go.Proofs.Ytgpabbbibmnnlaa
set_option linter.unusedVariables false
set_option linter.unusedSimpArgs false
open Go.Den
noncomputable section
theorem wzbb (ks ns : List Int) (ere : Bool) (deep : Int) (hd : 0 ≤ deep) (hd2 : deep ≤ 3) (M : Nat) (hrow : deep < 3 → MkOk ks ns ere 68 [.int .i64 (deep + 1)] M) : wwbc ks ns ere 113 [.int .i64 deep] (M + 2) := by
  intro a g l ha hg hg3 hl hl2
  by_cases h1 : 6 ≤ wzb (woj ks a) 0 9 ∧ 3 < l - 2 ∧ deep < 3 ∧ g < 3
  · obtain ⟨r, a', g', l', e, b1, nk, b2, b3, b4, b5, b6⟩ := wlrb ks ns ere deep hd hd2 M (hrow h1.2.2.1) a (by omega) g l hg hg3 (by omega) hl2 h1
    exact ⟨r, a', g', l', e, b1, nk, by omega, b3, b4, by omega, b6⟩
  · by_cases h2 : wzb (woj ks a) 0 9 = 5 ∧ 0 < g
    · obtain ⟨r, e, b1, nk⟩ := wxbc ks ns ere deep hd hd2 a (by omega) g l hg hg3 (by omega) hl2 h2
      exact ⟨r, a + 1, g, l - 2, e, by omega, nk, by omega, hg, hg3, by omega, by omega⟩
    · obtain ⟨r, e, b1, nk⟩ := part_set ks ns ere deep hd hd2 a (by omega) g l hg hg3 (by omega) hl2 h1 h2
      exact ⟨r, a + 1, g, l - 2, e, by omega, nk, by omega, hg, hg3, by omega, by omega⟩
abbrev rxZ : List Value := [.int .i64 0, .int .i64 0, .int .i64 0, .int .i64 0, .int .u64 0, .int .u64 0, .int .u64 0, .int .u64 0, .slice none 0 0]
abbrev ptH (ks ns : List Int) (ere : Bool) (a g l : Int) : List ABlk := mkH a g l ++ [X (mkB ks ns ere) 125 0 false, X rxZ 47 0 false]
theorem wkmb {l : List Rx} {r : Rx} : rxsC (l ++ [r]) = rxsC l ++ rxC r := by rw [wcp, wcp, List.flatMap_append]; simp
theorem wez {l : List Rx} {r : Rx} : wjb (l ++ [r]) = wjb l + wfc r := by
  induction l with
  | nil => rw [List.nil_append, wjb, wjb, wjb]; omega
  | cons a l ih => rw [List.cons_append, wjb, wjb, ih]; omega
set_option maxHeartbeats 8000000 in
theorem wikb (ks ns : List Int) (ere : Bool) (deep n : Int) (hn : n ≤ 3) (M : Nat) (hM : M ≤ 20000) (hp : wwbc ks ns ere 113 [.int .i64 deep] M) : ∀ (k i : Nat) (out : List Rx) (a : Nat) (g l : Int), (i : Int) + k = n → out ≠ [] → (∀ x ∈ out, x.kind ≠ 2) → out.length ≤ i → a + k * M ≤ 100000 → 0 ≤ g → g ≤ 3 → -1000000 + 2 * ((k * M : Nat) : Int) ≤ l → l ≤ 1000 →
    ∃ (rs : List Rx) (a' : Nat) (g' l' : Int), lim Try.prog cfg (.loop 95 3 (wfd 0) (SE (EJ 26 G0) [(9, .int .i64 i), (8, .int .i64 n), (7, FO 5 out.length (rxsC out)), (6, .pointer (some ⟨4, 0, none⟩)), (3, .pointer (some ⟨3, 0, none⟩)), (1, .int .i64 deep)])) (HP (ptH ks ns ere a g l ++ [.tok out.length 47 9]))
      = some (.code (.exit 0) (SE (EJ 26 G0) [(7, FO 4 rs.length (rxsC rs)), (6, .pointer (some ⟨3, 0, none⟩))]), HP (mkH a' g' l' ++ [X rxZ 47 0 false, .tok rs.length 47 9]))
      ∧ rs.length = out.length + k ∧ (∀ x ∈ rs, x.kind ≠ 2) ∧ wjb rs ≤ wjb out + k * M ∧ a' ≤ a + k * M ∧ 0 ≤ g' ∧ g' ≤ 3 ∧ l - 2 * ((k * M : Nat) : Int) ≤ l' ∧ l' ≤ l := by
  intro k
  induction k with
  | zero =>
    intro i out a g l hi ho hk2 hlen ha hg hg3 hl hl2
    refine ⟨out, a, g, l, ?_, by omega, hk2, by omega, by omega, hg, hg3, by omega, by omega⟩
    clear hp hk2
    refine wib wce ?_
    unfold wmd
    (repeat' (first | (simp -implicitDefEqProofs (maxSteps := 2000000) (disch := first | with_reducible assumption | omega | (simp only [zS, zA, seval, zD] <;> omega) | fail) only [zS, argl, insA, Go.Den.wm, wo, wu, looks, wbb, wab, idOf, riA, seval, Go.Den.wh, kK, wyc, *, zT]) | (with_reducible (first | apply z1 | apply z2 | apply z3 | apply z4) <;> intro hq <;> (try simp only [zH] at hq) <;> (try (exfalso; omega)))))
  | succ k ih =>
    intro i out a g l hi ho hk2 hlen ha hg hg3 hl hl2
    rw [Nat.succ_mul] at ha hl ⊢
    obtain ⟨r, a1, g1, l1, e1, n1, nk, b1, b2, b3, b4, b5⟩ := hp a g l (by omega) hg hg3 (by omega) hl2
    obtain ⟨rs, a2, g2, l2, e2, n2, nks, n3, c1, c2, c3, c4, c5⟩ := ih (i + 1) (out ++ [r]) a1 g1 l1 (by omega) (by simp) (fun x hx => by rcases List.mem_append.1 hx with h | h; exact hk2 x h; rw [List.mem_singleton] at h; subst h; exact nk) (by simp; omega) (by omega) b2 b3 (by omega) (by omega)
    rw [wez] at n3
    rw [List.length_append, List.length_singleton] at n2
    refine ⟨rs, a2, g2, l2, ?_, by omega, nks, by omega, by omega, c2, c3, by omega, by omega⟩
    rw [show (out ++ [r]).length = out.length + 1 by simp, wkmb] at e2
    clear hp ih n1 b1 b4 b5 n2 n3 c1 c4 c5 nk nks hk2
    refine wib wce ?_
    unfold wmd
    (repeat' (first | (simp -implicitDefEqProofs (maxSteps := 2000000) (disch := first | with_reducible assumption | omega | (simp only [zS, zA, seval, zD] <;> omega) | fail) only [zS, argl, insA, Go.Den.wm, wo, wu, looks, wbb, wab, idOf, riA, seval, Go.Den.wh, kK, wyc, *, zT]) | (with_reducible (first | apply z1 | apply z2 | apply z3 | apply z4) <;> intro hq <;> (try simp only [zH] at hq) <;> (try (exfalso; omega)))))
    all_goals first | exact e2 | trace_state
end
end Go.Proofs.Ytgpabbbibmnnlaa
namespace Go.Proofs.Ytgpabbbibmnnlaa
set_option linter.unusedVariables false
set_option linter.unusedSimpArgs false
open Go.Den
noncomputable section
theorem wfz {r : Rx} : rxsC [r] = rxC r := by rw [rxsC, rxsC, List.append_nil]
theorem wiq {k : Int} {l : List Rx} : rxC (.mk k 0 0 0 0#256 l) = [.int .i64 k, .int .i64 0, .int .i64 0, .int .i64 0, .int .u64 0, .int .u64 0, .int .u64 0, .int .u64 0, FL l.length (rxsC l)] := by rw [rxC]; rfl
set_option maxHeartbeats 8000000 in
theorem wjkb (ks ns : List Int) (ere : Bool) (deep n : Int) (hn : n ≤ 3) (M : Nat) (hM : M ≤ 20000) (hp : wwbc ks ns ere 113 [.int .i64 deep] M) (k : Nat) (a : Nat) (g l : Int) (hi : (k : Int) + 1 = n) (ha : a + (k * M + M) ≤ 100000) (hg : 0 ≤ g) (hg3 : g ≤ 3) (hl : -1000000 + 2 * ((k * M + M : Nat) : Int) ≤ l) (hl2 : l ≤ 1000) :
    ∃ (rs : List Rx) (a' : Nat) (g' l' : Int), lim Try.prog cfg (.loop 95 3 (wfd 0) (SE (EJ 26 G0) [(9, .int .i64 0), (8, .int .i64 n), (7, .slice none 0 0), (6, .pointer (some ⟨4, 0, none⟩)), (3, .pointer (some ⟨3, 0, none⟩)), (1, .int .i64 deep)])) (HP (ptH ks ns ere a g l))
      = some (.code (.exit 0) (SE (EJ 26 G0) [(7, FO 4 rs.length (rxsC rs)), (6, .pointer (some ⟨3, 0, none⟩))]), HP (mkH a' g' l' ++ [X rxZ 47 0 false, .tok rs.length 47 9]))
      ∧ rs.length = k + 1 ∧ (∀ x ∈ rs, x.kind ≠ 2) ∧ wjb rs ≤ k * M + M ∧ a' ≤ a + (k * M + M) ∧ 0 ≤ g' ∧ g' ≤ 3 ∧ l - 2 * ((k * M + M : Nat) : Int) ≤ l' ∧ l' ≤ l := by
  obtain ⟨r, a1, g1, l1, e1, n1, nk, b1, b2, b3, b4, b5⟩ := hp a g l (by omega) hg hg3 (by omega) hl2
  obtain ⟨rs, a2, g2, l2, e2, n2, nks, n3, c1, c2, c3, c4, c5⟩ := wikb ks ns ere deep n hn M hM hp k 1 [r] a1 g1 l1 (by omega) (by simp) (fun x hx => by rw [List.mem_singleton] at hx; subst hx; exact nk) (by simp) (by omega) b2 b3 (by omega) (by omega)
  rw [wjb, wjb] at n3
  rw [List.length_singleton] at n2
  refine ⟨rs, a2, g2, l2, ?_, by omega, nks, by omega, by omega, c2, c3, by omega, by omega⟩
  rw [List.length_singleton, wfz, show ((1 : Nat) : Int) = 1 from rfl] at e2
  have hn0 : 0 < n := by omega
  clear hp n1 b1 b4 b5 n2 n3 c1 c4 c5 hi ha hl nk nks
  refine wib wce ?_
  unfold wmd
  (repeat' (first | (simp -implicitDefEqProofs (maxSteps := 2000000) (disch := first | with_reducible assumption | omega | (simp only [zS, zA, seval, zD] <;> omega) | fail) only [zS, argl, insA, Go.Den.wm, wo, wu, looks, wbb, wab, idOf, riA, seval, Go.Den.wh, kK, wyc, *, zT]) | (with_reducible (first | apply z1 | apply z2 | apply z3 | apply z4) <;> intro hq <;> (try simp only [zH] at hq) <;> (try (exfalso; omega)))))
  all_goals first | exact e2 | trace_state
def rxK (t n : Nat) (c : List Value) : List Value := [.int .i64 2, .int .i64 0, .int .i64 0, .int .i64 0, .int .u64 0, .int .u64 0, .int .u64 0, .int .u64 0, FO t n c]
def PkOk (ks ns : List Int) (ere : Bool) (args : List Value) (M : Nat) : Prop :=
  ∀ (a : Nat) (g l : Int), a + M ≤ 100000 → 0 ≤ g → g ≤ 3 → -1000000 + 2 * (M : Int) ≤ l → l ≤ 1000 →
    ∃ (r : Rx) (a' : Nat) (g' l' : Int), ((lim Try.prog cfg (.call 95 (.agg ⟨mkB ks ns ere⟩ :: args)) (HP (mkH a g l)) = some (.val (.agg ⟨rxC r⟩), HP (mkH a' g' l')) ∧ r.kind ≠ 2) ∨
      ∃ rs : List Rx, r = .mk 2 0 0 0 0#256 rs ∧ 2 ≤ rs.length ∧ rs.length ≤ 3 ∧ lim Try.prog cfg (.call 95 (.agg ⟨mkB ks ns ere⟩ :: args)) (HP (mkH a g l)) = some (.val (.agg ⟨rxK 3 rs.length (rxsC rs)⟩), HP (mkH a' g' l' ++ [.tok rs.length 47 9])))
      ∧ wfc r ≤ M ∧ a' ≤ a + M ∧ 0 ≤ g' ∧ g' ≤ 3 ∧ l - 2 * (M : Int) ≤ l' ∧ l' ≤ l
set_option maxHeartbeats 8000000 in
theorem wacb (ks ns : List Int) (ere : Bool) (deep n : Int) (hn : n ≤ 3) (M : Nat) (hM : M ≤ 20000) (hp : wwbc ks ns ere 113 [.int .i64 deep] M) (k : Nat) (hi : (k : Int) + 1 = n) : PkOk ks ns ere [.int .i64 deep, .int .i64 n] (1 + (k * M + M)) := by
  intro a g l ha hg hg3 hl hl2
  obtain ⟨rs, a2, g2, l2, e2, n2, nks, n3, c1, c2, c3, c4, c5⟩ := wjkb ks ns ere deep n hn M hM hp k a g l hi (by omega) hg hg3 (by omega) hl2
  simp only [ptH, mkH, List.cons_append, List.nil_append] at e2
  clear hp
  have hlen : rs.length ≤ 3 := by omega
  by_cases h1 : rs.length = 1
  · match rs, h1 with
    | [r], _ =>
      rw [wjb, wjb] at n3
      refine ⟨r, a2, g2, l2, .inl ⟨?_, nks r (List.mem_singleton.2 rfl)⟩, by omega, by omega, c2, c3, by omega, by omega⟩
      rw [List.length_singleton, wfz] at e2
      clear n2 n3 c1 c4 c5 hi ha hl hlen nks
      refine wlb hc wrg (Nat.le_of_ble_eq_true rfl) (Nat.le_of_ble_eq_true rfl) ?_
      unfold wtf
      (repeat' (first | (simp -implicitDefEqProofs (maxSteps := 2000000) (disch := first | with_reducible assumption | omega | (simp only [zS, zA, seval, wqh, wsd, zD] <;> omega) | fail) only [zS, argl, insA, Go.Den.wm, wo, wu, looks, wbb, wab, idOf, riA, seval, Go.Den.wh, kK, wyc, wkc, wsd, wuf, wjc, *, zT]) | (with_reducible (first | apply z1 | apply z2 | apply z3 | apply z4) <;> intro hq <;> (try simp only [zH] at hq) <;> (try (exfalso; omega)))))
  · refine ⟨.mk 2 0 0 0 0#256 rs, a2, g2, l2, .inr ⟨rs, rfl, by omega, hlen, ?_⟩, by rw [wfc]; omega, by omega, c2, c3, by omega, by omega⟩
    have h2 : ¬ (rs.length : Int) = 1 := by omega
    clear n2 n3 c1 c4 c5 hi ha hl h1 nks
    simp only [rxK, mkH, List.cons_append, List.nil_append]
    refine wlb hc wrg (Nat.le_of_ble_eq_true rfl) (Nat.le_of_ble_eq_true rfl) ?_
    unfold wtf
    (repeat' (first | (simp -implicitDefEqProofs (maxSteps := 2000000) (disch := first | with_reducible assumption | omega | (simp only [zS, zA, seval, wqh, wdn, wsd, zD] <;> omega) | fail) only [zS, argl, insA, Go.Den.wm, wo, wu, looks, wbb, wab, idOf, riA, seval, Go.Den.wh, kK, wyc, wkc, wsd, wuf, wjc, *, zT]) | (with_reducible (first | apply z1 | apply z2 | apply z3 | apply z4) <;> intro hq <;> (try simp only [zH] at hq) <;> (try (exfalso; omega)))))
end
end Go.Proofs.Ytgpabbbibmnnlaa
namespace Go.Den
noncomputable section
theorem weh : nfL [] = [] := rfl
theorem wwe {v : Value} {r : List Value} : nfL (v :: r) = nfV v :: nfL r := rfl
theorem wvj {k : IntKind} {n : Int} : nfV (.int k n) = .int k n := rfl
theorem wjp {n : Nat} {cs : List Value} : nfV (FL n cs) = FL n cs := rfl
theorem wfh : nfV (.slice none 0 0) = FL 0 [] := rfl
theorem wcl {h : List ABlk} (hh : h.length ≤ 1099511627774) {elem size bytes t len n : Nat} {cs new : List Value} (ht : t < h.length) (hn : len + n ≤ 16777216) (hb : bytes ≤ 1048576) (hc : cs.length = len * size) (ha : waf (nfL new) = true) :
    appN h elem size bytes (FO t len cs) n new = appT h elem size t len n cs (nfL new) h[t]? := by
  show (bif roomy (len + n) bytes then wxl (HP h) elem size t len cs (nfL new) n else .none) = _
  have h1 : roomy (len + n) bytes = true := by unfold roomy; rw [nble, nble, decide_eq_true hn, decide_eq_true hb]; rfl
  rw [h1, cond_true]
  generalize nfL new = new at *
  unfold wxl
  rw [wmh h hh]
  cases hq : h[t]? with
  | none => rfl
  | some b =>
    cases b with
    | cells b => rfl
    | map es => rfl
    | tok m el es =>
      show (bif wlp m el es elem size t len cs new then _ else _) = (bif decide (m = len ∧ el = elem ∧ es = size) then _ else _)
      have h2 : wlp m el es elem size t len cs new = decide (m = len ∧ el = elem ∧ es = size) := by
        unfold wlp
        rw [wgj ha, wio ha, hc, Nat.beq_refl, wvg (by omega), nbeq, nbeq, nbeq]
        by_cases q1 : m = len <;> by_cases q2 : el = elem <;> by_cases q3 : es = size <;> simp [q1, q2, q3]
      rw [h2, wqr _ _ _ ht]
      by_cases q : m = len ∧ el = elem ∧ es = size
      · obtain ⟨rfl, rfl, rfl⟩ := q; rfl
      · rw [decide_eq_false q]; rfl
theorem wybc {h : List ABlk} {elem size bytes : Nat} {s : Value} {t n : Nat} {cs : List Value} (h0 : 0 < n) (hc : n * size ≤ cs.length) : appA true (HP h) elem size bytes s (FO t n cs) = appN h elem size bytes s n (slotsOf cs 0 (n * size)) := by
  have h1 : appA true (HP h) elem size bytes s (FO t n cs) = appA true (HP h) elem size bytes s (FL n cs) := rfl
  rw [h1, app_FL h0 hc]
def appE (h : List ABlk) (elem size : Nat) (len n : Nat) (new : List Value) : Option ABlk → ARes
  | some (.cells b) => bif decide (len * size ≤ b.cells.length) then wth true (HP h) elem size (slotsOf b.cells 0 (len * size) ++ new) (len + n) else .none
  | _ => .none
theorem whi {h : List ABlk} (hh : h.length ≤ 1099511627774) {elem size bytes i len c n : Nat} {new : List Value} (hx : wjac h[i]? = true) (hc : len + 1 ≤ c) (hg : c < len + 1 + n) (hr : len + 1 + n ≤ 16777216) (hb : bytes ≤ 1048576) :
    appN h elem size bytes (.slice (some ⟨i, 0, none⟩) (len + 1) (c + 1)) n new = appE h elem size (len + 1) n new h[i]? := by
  show (bif roomy (len + 1 + n) bytes && Nat.ble (len + 1) c then wyl true (HP h) elem size (.slice (some ⟨i, 0, none⟩) (len + 1) (c + 1)) ⟨i, 0, none⟩ (len + 1) c n new else .none) = _
  have h1 : roomy (len + 1 + n) bytes = true := by unfold roomy; rw [nble, nble, decide_eq_true hr, decide_eq_true hb]; rfl
  rw [h1, nble, decide_eq_true hc]
  unfold wyl
  rw [nble, decide_eq_false (by omega)]
  have h2 : wni (HP h) size (len + 1) (.slice (some ⟨i, 0, none⟩) (len + 1) (c + 1)) = match wsg (HP h) ⟨i, 0, none⟩ ((len + 1) * size) with
    | some b => some (slotsOf b.cells 0 ((len + 1) * size))
    | none => none := by
    show (bif Nat.ble (len + 1) (len + 1) && Nat.blt 0 (len + 1) then _ else none) = _
    rw [nble, nblt, decide_eq_true (Nat.le_refl _), decide_eq_true (Nat.succ_pos _)]
    rfl
  simp only [h2, Bool.and_self, cond_true, cond_false]
  unfold wsg
  rw [wmh h hh]
  cases hq : h[i]? with
  | none => rw [hq] at hx; cases hx
  | some b =>
    rw [hq] at hx
    cases b with
    | cells b =>
      have hx : (isNil b.lens && Nat.beq b.wver 0) = true := hx
      simp only [Bool.and_eq_true, Nat.beq_eq] at hx
      obtain ⟨h3, h4⟩ := hx
      have h5 : b.lens = [] := by cases hl : b.lens with | nil => rfl | cons a r => rw [hl] at h3; cases h3
      have h6 : rdOk b (aver ⟨i, 0, none⟩) (0 + (len + 1) * size) = decide ((len + 1) * size ≤ b.cells.length) := by
        unfold rdOk
        have e1 : b.top = 0 := by unfold CBlk.top; rw [h5]; rfl
        have e2 : b.lenAt 0 = b.cells.length := by unfold CBlk.lenAt; rw [h5]
        rw [h4, e1]
        show (Nat.ble 0 0 && (Nat.ble 0 0 && Nat.ble (0 + (len + 1) * size) (b.lenAt 0))) = _
        rw [e2, Nat.zero_add, nble, nble]
        simp
      simp only [h6]
      by_cases hk : (len + 1) * size ≤ b.cells.length
      · simp only [decide_eq_true hk, cond_true, appE]
      · simp only [decide_eq_false hk, cond_false, appE]
    | map es => cases hx
    | tok a b c => cases hx
theorem wot {h : List ABlk} (hh : h.length ≤ 1099511627774) {elem size len n : Nat} {cs new : List Value} {t z : Nat} {pf : Bool} (hl : len * size ≤ cs.length) (ha : waf (nfL (slotsOf cs 0 (len * size) ++ new)) = true) :
    appE h elem size len n new (some (X cs t z pf)) = .eff (FO h.length (len + n) (nfL (slotsOf cs 0 (len * size) ++ new))) (HP (h ++ [.tok (len + n) elem size])) := by
  show (bif decide (len * size ≤ cs.length) then wth true (HP h) elem size (slotsOf cs 0 (len * size) ++ new) (len + n) else .none) = _
  rw [decide_eq_true hl, cond_true]
  show (bif wxw (HP h) (nfL (slotsOf cs 0 (len * size) ++ new)) then ARes.eff (FO (HP h).n (len + n) (nfL (slotsOf cs 0 (len * size) ++ new))) ((HP h).push (.tok (len + n) elem size)) else .none) = _
  have h2 : wxw (HP h) (nfL (slotsOf cs 0 (len * size) ++ new)) = true := by
    unfold wxw
    rw [wgj ha, wio ha, HP_n, wvg hh]; rfl
  rw [h2, cond_true, HP_n, wjk]
end
end Go.Den
