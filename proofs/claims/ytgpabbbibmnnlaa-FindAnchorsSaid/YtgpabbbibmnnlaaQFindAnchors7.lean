/-
  PARTS OF A PROOF, joined by a program (7 of 7): a proved reckoner of the model, and what the functions come to.
-/
import Derived.Test.YtgpabbbibmnnlaaQFindAnchors6
import Derived.ChangeSame
import Derived.WideKeyArgs
import Derived.OpenShut
import Derived.WideKeyPair
import Derived.ChangeSlices
set_option linter.unusedVariables false
set_option linter.unusedSimpArgs false
namespace Go.Proofs.Ytgpabbbibmnnlaa
set_option linter.unusedVariables false
set_option linter.unusedSimpArgs false
open Go.Den
noncomputable section
section
variable (s : List UInt8) (bol : Bool) (mn mx nn : Int) (set : BitVec 256) (kids : List Rx)
set_option maxHeartbeats 4000000 in
theorem ev_on_N (hs : s.length ≤ 12) (hmn : 0 ≤ mn ∧ mn ≤ 20) (hmx : mx ≤ 20) (w : St → List St) (a : Int) (hk : KidOk s bol kids w) (k : Nat) (IHC : OnC s bol mn mx nn set kids w a k) (IH : OnN s bol mn mx nn set kids w a k) : OnN s bol mn mx nn set kids w a (k + 1) := by
  intro n x met hn hn2 hx hxa hmu
  obtain ⟨kid, k1, k2, k3⟩ := hk
  have hw := fun y hy => (k3 y hy).1
  have ⟨r1, r2⟩ := k3 x hx
  have r3 := row_len r1 hs
  have key := ev_key_N s bol mn mx nn set kids
  refine wec hc wmi (Nat.le_of_ble_eq_true rfl) (Nat.le_of_ble_eq_true rfl) ?_
  unfold wqh
  by_cases hm : keyF mn mx n x ∈ met
  · rw [wqac hm, reO, if_pos rfl]
    clear IH IHC k3 hw r1 r2
    (repeat' (first | (simp -implicitDefEqProofs (maxSteps := 2000000) (disch := first | with_reducible assumption | omega | (simp only [zS, zA, seval, wy, wcf, wfb, wmb, zD] <;> omega) | fail) only [zS, argl, insA, Go.Den.wm, wo, wu, looks, wcb, wbb, idOf, riA, seval, Go.Den.wh, kK, wy, wfb, wmb, wgd wkg, wmf, wcf, *, zT]) | (with_reducible (first | apply z1 | apply z2 | apply z3 | apply z4) <;> intro hq <;> (try simp only [zH] at hq) <;> (try (exfalso; omega))) | (with_reducible apply z5; (case hl => (repeat (first | exact .nil | with_reducible apply z6 | with_reducible apply z7))); (case h => kernel_rfl))))
  · by_cases hnm : mx < 0 ∨ n < mx
    · have hb := wzab (w := w) (k := k) (out := []) hm _ rfl
      rw [if_pos hnm] at hb
      have hl := on_loopN s bol mn mx nn set kids hs hmn hmx w a hw k IHC IH n ⟨hn, by omega⟩ hnm x hx hxa hmu (w x) (by omega) r1.good (w x).length 0 (met ++ [keyF mn mx n x]) (by omega)
      rw [List.drop_zero, show ((0 : Nat) : Int) = 0 from rfl] at hl
      have hbr := wveb (a := a) (mn := mn) (mx := mx) hw (k := k) (n := n) (x := x) (w x) (met ++ [keyF mn mx n x], []) (fun y hy => ⟨(r1.good y hy).1, by have := (r1.good y hy).2; omega⟩) .nil
      generalize wos w mn mx k n x (w x) (met ++ [keyF mn mx n x], []) = b at hb hl hbr
      obtain ⟨bm, bo⟩ := b
      simp only at hb hbr
      rw [hb]
      have hlen : (addF bo [x]).length ≤ 16000000 := by have := row_len (hbr.add (xs := [x]) (fun y hy => by rw [List.mem_singleton] at hy; subst hy; exact ⟨hx, hxa⟩)) hs; omega
      clear IH IHC k3 hw r1 hb hbr
      unfold feO at hl
      by_cases hbo : bo = []
      · subst hbo
        rw [if_pos rfl] at hl
        have hadd := wvq [x] (by simp) (by simp) hlen
        rw [wqf, show [x].length = 1 from rfl] at hadd
        by_cases hge : n ≥ mn
        · rw [if_pos hge, reO, if_neg (wfh (.inr (by simp)))]
          by_cases hmx0 : mx < 0
          · (repeat' (first | (simp -implicitDefEqProofs (maxSteps := 2000000) (disch := first | with_reducible assumption | omega | (simp only [zS, zA, seval, wy, wcf, wfb, wmb, zD] <;> omega) | fail) only [zS, argl, insA, Go.Den.wm, wo, wu, looks, wcb, wbb, idOf, riA, seval, Go.Den.wh, kK, wz, wy, wfb, wmb, wgd wkg, wxe wkg, wmf, wcf, *, zT]) | (with_reducible (first | apply z1 | apply z2 | apply z3 | apply z4) <;> intro hq <;> (try simp only [zH] at hq) <;> (try (exfalso; omega))) | (with_reducible apply z5; (case hl => (repeat (first | exact .nil | with_reducible apply z6 | with_reducible apply z7))); (case h => kernel_rfl))))
          · have hnm2 : n < mx := by omega
            (repeat' (first | (simp -implicitDefEqProofs (maxSteps := 2000000) (disch := first | with_reducible assumption | omega | (simp only [zS, zA, seval, wy, wcf, wfb, wmb, zD] <;> omega) | fail) only [zS, argl, insA, Go.Den.wm, wo, wu, looks, wcb, wbb, idOf, riA, seval, Go.Den.wh, kK, wz, wy, wfb, wmb, wgd wkg, wxe wkg, wmf, wcf, *, zT]) | (with_reducible (first | apply z1 | apply z2 | apply z3 | apply z4) <;> intro hq <;> (try simp only [zH] at hq) <;> (try (exfalso; omega))) | (with_reducible apply z5; (case hl => (repeat (first | exact .nil | with_reducible apply z6 | with_reducible apply z7))); (case h => kernel_rfl))))
        · rw [if_neg hge, reO, if_pos rfl]
          by_cases hmx0 : mx < 0
          · (repeat' (first | (simp -implicitDefEqProofs (maxSteps := 2000000) (disch := first | with_reducible assumption | omega | (simp only [zS, zA, seval, wy, wcf, wfb, wmb, zD] <;> omega) | fail) only [zS, argl, insA, Go.Den.wm, wo, wu, looks, wcb, wbb, idOf, riA, seval, Go.Den.wh, kK, wz, wy, wfb, wmb, wgd wkg, wxe wkg, wmf, wcf, *, zT]) | (with_reducible (first | apply z1 | apply z2 | apply z3 | apply z4) <;> intro hq <;> (try simp only [zH] at hq) <;> (try (exfalso; omega))) | (with_reducible apply z5; (case hl => (repeat (first | exact .nil | with_reducible apply z6 | with_reducible apply z7))); (case h => kernel_rfl))))
          · have hnm2 : n < mx := by omega
            (repeat' (first | (simp -implicitDefEqProofs (maxSteps := 2000000) (disch := first | with_reducible assumption | omega | (simp only [zS, zA, seval, wy, wcf, wfb, wmb, zD] <;> omega) | fail) only [zS, argl, insA, Go.Den.wm, wo, wu, looks, wcb, wbb, idOf, riA, seval, Go.Den.wh, kK, wz, wy, wfb, wmb, wgd wkg, wxe wkg, wmf, wcf, *, zT]) | (with_reducible (first | apply z1 | apply z2 | apply z3 | apply z4) <;> intro hq <;> (try simp only [zH] at hq) <;> (try (exfalso; omega))) | (with_reducible apply z5; (case hl => (repeat (first | exact .nil | with_reducible apply z6 | with_reducible apply z7))); (case h => kernel_rfl))))
      · rw [if_neg hbo] at hl
        have hadd := wdo bo [x] hbo (by simp) hlen
        rw [wqf, show [x].length = 1 from rfl] at hadd
        by_cases hge : n ≥ mn
        · rw [if_pos hge, reO, if_neg (wfh (.inr (by simp)))]
          by_cases hmx0 : mx < 0
          · (repeat' (first | (simp -implicitDefEqProofs (maxSteps := 2000000) (disch := first | with_reducible assumption | omega | (simp only [zS, zA, seval, wy, wcf, wfb, wmb, zD] <;> omega) | fail) only [zS, argl, insA, Go.Den.wm, wo, wu, looks, wcb, wbb, idOf, riA, seval, Go.Den.wh, kK, wz, wy, wfb, wmb, wgd wkg, wxe wkg, wmf, wcf, *, zT]) | (with_reducible (first | apply z1 | apply z2 | apply z3 | apply z4) <;> intro hq <;> (try simp only [zH] at hq) <;> (try (exfalso; omega))) | (with_reducible apply z5; (case hl => (repeat (first | exact .nil | with_reducible apply z6 | with_reducible apply z7))); (case h => kernel_rfl))))
          · have hnm2 : n < mx := by omega
            (repeat' (first | (simp -implicitDefEqProofs (maxSteps := 2000000) (disch := first | with_reducible assumption | omega | (simp only [zS, zA, seval, wy, wcf, wfb, wmb, zD] <;> omega) | fail) only [zS, argl, insA, Go.Den.wm, wo, wu, looks, wcb, wbb, idOf, riA, seval, Go.Den.wh, kK, wz, wy, wfb, wmb, wgd wkg, wxe wkg, wmf, wcf, *, zT]) | (with_reducible (first | apply z1 | apply z2 | apply z3 | apply z4) <;> intro hq <;> (try simp only [zH] at hq) <;> (try (exfalso; omega))) | (with_reducible apply z5; (case hl => (repeat (first | exact .nil | with_reducible apply z6 | with_reducible apply z7))); (case h => kernel_rfl))))
        · rw [if_neg hge, reO, if_neg hbo]
          by_cases hmx0 : mx < 0
          · (repeat' (first | (simp -implicitDefEqProofs (maxSteps := 2000000) (disch := first | with_reducible assumption | omega | (simp only [zS, zA, seval, wy, wcf, wfb, wmb, zD] <;> omega) | fail) only [zS, argl, insA, Go.Den.wm, wo, wu, looks, wcb, wbb, idOf, riA, seval, Go.Den.wh, kK, wz, wy, wfb, wmb, wgd wkg, wxe wkg, wmf, wcf, *, zT]) | (with_reducible (first | apply z1 | apply z2 | apply z3 | apply z4) <;> intro hq <;> (try simp only [zH] at hq) <;> (try (exfalso; omega))) | (with_reducible apply z5; (case hl => (repeat (first | exact .nil | with_reducible apply z6 | with_reducible apply z7))); (case h => kernel_rfl))))
          · have hnm2 : n < mx := by omega
            (repeat' (first | (simp -implicitDefEqProofs (maxSteps := 2000000) (disch := first | with_reducible assumption | omega | (simp only [zS, zA, seval, wy, wcf, wfb, wmb, zD] <;> omega) | fail) only [zS, argl, insA, Go.Den.wm, wo, wu, looks, wcb, wbb, idOf, riA, seval, Go.Den.wh, kK, wz, wy, wfb, wmb, wgd wkg, wxe wkg, wmf, wcf, *, zT]) | (with_reducible (first | apply z1 | apply z2 | apply z3 | apply z4) <;> intro hq <;> (try simp only [zH] at hq) <;> (try (exfalso; omega))) | (with_reducible apply z5; (case hl => (repeat (first | exact .nil | with_reducible apply z6 | with_reducible apply z7))); (case h => kernel_rfl))))
    · have hb := wzab (w := w) (k := k) (out := []) hm _ rfl
      rw [if_neg hnm] at hb
      simp only at hb
      rw [hb]
      have hmx0 : ¬ mx < 0 := fun h => hnm (.inl h)
      have hnm2 : ¬ n < mx := fun h => hnm (.inr h)
      have hadd := wvq [x] (by simp) (by simp) (by have := row_len ((RwS.nil (len := s.length) (a := a)).add (xs := [x]) (fun y hy => by rw [List.mem_singleton] at hy; subst hy; exact ⟨hx, hxa⟩)) hs; omega)
      rw [wqf, show [x].length = 1 from rfl] at hadd
      clear IH IHC k3 hw r1 r2 hb hnm
      by_cases hge : n ≥ mn
      · rw [if_pos hge, reO, if_neg (wfh (.inr (by simp)))]
        (repeat' (first | (simp -implicitDefEqProofs (maxSteps := 2000000) (disch := first | with_reducible assumption | omega | (simp only [zS, zA, seval, wy, wcf, wfb, wmb, zD] <;> omega) | fail) only [zS, argl, insA, Go.Den.wm, wo, wu, looks, wcb, wbb, idOf, riA, seval, Go.Den.wh, kK, wz, wy, wfb, wmb, wgd wkg, wxe wkg, wmf, wcf, *, zT]) | (with_reducible (first | apply z1 | apply z2 | apply z3 | apply z4) <;> intro hq <;> (try simp only [zH] at hq) <;> (try (exfalso; omega))) | (with_reducible apply z5; (case hl => (repeat (first | exact .nil | with_reducible apply z6 | with_reducible apply z7))); (case h => kernel_rfl))))
      · rw [if_neg hge, reO, if_pos rfl]
        (repeat' (first | (simp -implicitDefEqProofs (maxSteps := 2000000) (disch := first | with_reducible assumption | omega | (simp only [zS, zA, seval, wy, wcf, wfb, wmb, zD] <;> omega) | fail) only [zS, argl, insA, Go.Den.wm, wo, wu, looks, wcb, wbb, idOf, riA, seval, Go.Den.wh, kK, wz, wy, wfb, wmb, wgd wkg, wxe wkg, wmf, wcf, *, zT]) | (with_reducible (first | apply z1 | apply z2 | apply z3 | apply z4) <;> intro hq <;> (try simp only [zH] at hq) <;> (try (exfalso; omega))) | (with_reducible apply z5; (case hl => (repeat (first | exact .nil | with_reducible apply z6 | with_reducible apply z7))); (case h => kernel_rfl))))
theorem on_all (hs : s.length ≤ 12) (hmn : 0 ≤ mn ∧ mn ≤ 20) (hmx : mx ≤ 20) (w : St → List St) (a : Int) (hk : KidOk s bol kids w) : ∀ k, OnC s bol mn mx nn set kids w a k ∧ OnN s bol mn mx nn set kids w a k := by
  intro k
  induction k with
  | zero => exact ⟨fun n x met out _ _ _ _ h => absurd h (Nat.not_lt_zero _), fun n x met _ _ _ _ h => absurd h (Nat.not_lt_zero _)⟩
  | succ k ih => exact ⟨ev_on_C s bol mn mx nn set kids hs hmn hmx w a hk k ih.1, ev_on_N s bol mn mx nn set kids hs hmn hmx w a hk k ih.1 ih.2⟩
end
end
end Go.Proofs.Ytgpabbbibmnnlaa
namespace Go.Proofs.Ytgpabbbibmnnlaa
set_option linter.unusedVariables false
set_option linter.unusedSimpArgs false
open Go.Den
noncomputable section
section
variable (s : List UInt8) (bol : Bool)
def grpF (n : Int) (x y : St) : St := (y.1, (y.2.put (n.toNat * 2) x.1).put (n.toNat * 2 + 1) y.1)
abbrev gfN (r : Rx) (x : St) : List ABlk := [X (rxC r) 47 0 true, X (stC x) 87 0 true, X [.slice none 0 0, .map (some 3)] 178 0 false, .map []]
abbrev gfC (r : Rx) (x : St) (out : List St) : List ABlk := [X (rxC r) 47 0 true, X (stC x) 87 0 true, X [FO 3 out.length (stsC out), .map (some 4)] 178 0 false, .tok out.length 87 9, .map (setK stC out)]
set_option maxHeartbeats 4000000 in
theorem wrac (hs : s.length ≤ 12) (r : Rx) (n1 : 1 ≤ r.n) (n3 : r.n ≤ 3) (x : St) (hx : GdS s.length x) (l : List St) (hll : l.length ≤ 16000000) (hl : ∀ y ∈ l, GdS s.length y ∧ x.1 ≤ y.1) :
    ∀ (j i : Nat) (out : List St), i + j = l.length → out ≠ [] → RwS s.length x.1 out →
    lim Try.prog cfg (.loop 75 0 (wtb 0) (SE (EJ 158 G0) [(82, .int .i64 i), (81, .int .i64 l.length), (80, FL l.length (stsC l)), (8, .pointer (some ⟨2, 0, none⟩)), (5, .pointer (some ⟨1, 0, none⟩)), (4, .pointer (some ⟨0, 0, none⟩))])) (HP (gfC r x out)) = some (.code (.exit 1) (SE (EJ 158 G0) [(8, .pointer (some ⟨0, 0, none⟩))]), HP (rowC (wwq (fun y => [grpF r.n x y]) (l.drop i) out))) := by
  intro j
  induction j with
  | zero =>
    intro i out hi ho hr
    rw [List.drop_of_length_le (by omega)]
    refine wab woe ?_
    unfold wne
    clear hl
    (repeat' (first | (simp -implicitDefEqProofs (maxSteps := 2000000) (disch := first | with_reducible assumption | omega | (simp only [zS, zA, seval, wy, zD] <;> omega) | fail) only [zS, argl, insA, Go.Den.wm, wo, wu, looks, wcb, wbb, idOf, riA, seval, Go.Den.wh, kK, wtd, wy, *, zT]) | (with_reducible (first | apply z1 | apply z2 | apply z3 | apply z4) <;> intro hq <;> (try simp only [zH] at hq) <;> (try (exfalso; omega)))))
    all_goals rfl
  | succ j ih =>
    intro i out hi ho hr
    rw [wfg l (by omega), wrr]
    have hy := hl (l.getD i St.zero) (by rw [List.getD_eq_getElem?_getD, List.getElem?_eq_getElem (by omega)]; exact List.getElem_mem _)
    have h3 : RwS s.length x.1 (addF out [grpF r.n x (l.getD i St.zero)]) := hr.add (fun z hz => by rw [List.mem_singleton] at hz; subst hz; exact ⟨hx.group hy.1 hy.2 n1 n3, hy.2⟩)
    have hadd := wdo out [grpF r.n x (l.getD i St.zero)] ho (by simp) (by have := row_len h3 hs; omega)
    have h2 := ih (i + 1) _ (by omega) (wfh (.inl ho)) h3
    rw [wqf, show [grpF r.n x (l.getD i St.zero)].length = 1 from rfl, show stC (grpF r.n x (l.getD i St.zero)) = .int .i64 (l.getD i St.zero).1 :: mtC (((l.getD i St.zero).2.put (r.n.toNat * 2) x.1).put (r.n.toNat * 2 + 1) (l.getD i St.zero).1) from rfl] at hadd
    refine wab woe ?_
    unfold wne
    clear ih hl h3 hr hy
    (repeat' (first | (simp -implicitDefEqProofs (maxSteps := 2000000) (disch := first | with_reducible assumption | omega | (simp only [zS, zA, seval, wy, wfb, zD] <;> omega) | fail) only [zS, argl, insA, Go.Den.wm, wo, wu, looks, wcb, wbb, idOf, riA, seval, Go.Den.wh, kK, wtd, wy, wfb, *, zT]) | (with_reducible (first | apply z1 | apply z2 | apply z3 | apply z4) <;> intro hq <;> (try simp only [zH] at hq) <;> (try (exfalso; omega)))))
    exact h2
set_option maxHeartbeats 4000000 in
theorem wsac (hs : s.length ≤ 12) (r : Rx) (n1 : 1 ≤ r.n) (n3 : r.n ≤ 3) (x : St) (hx : GdS s.length x) (l : List St) (hll : l.length ≤ 16000000) (hl : ∀ y ∈ l, GdS s.length y ∧ x.1 ≤ y.1) :
    lim Try.prog cfg (.loop 75 0 (wtb 0) (SE (EJ 158 G0) [(82, .int .i64 0), (81, .int .i64 l.length), (80, FL l.length (stsC l)), (8, .pointer (some ⟨2, 0, none⟩)), (5, .pointer (some ⟨1, 0, none⟩)), (4, .pointer (some ⟨0, 0, none⟩))])) (HP (gfN r x)) = some (.code (.exit 1) (SE (EJ 158 G0) [(8, .pointer (some ⟨0, 0, none⟩))]), HP (rowO (wwq (fun y => [grpF r.n x y]) l []))) := by
  by_cases h0 : l = []
  · subst h0
    clear hl
    refine wab woe ?_
    unfold wne
    (repeat' (first | (simp -implicitDefEqProofs (maxSteps := 2000000) (disch := first | with_reducible assumption | omega | (simp only [zS, zA, seval, wy, zD] <;> omega) | fail) only [zS, argl, insA, Go.Den.wm, wo, wu, looks, wcb, wbb, idOf, riA, seval, Go.Den.wh, kK, wtd, wy, *, zT]) | (with_reducible (first | apply z1 | apply z2 | apply z3 | apply z4) <;> intro hq <;> (try simp only [zH] at hq) <;> (try (exfalso; omega)))))
    all_goals rfl
  · have h00 : 0 < l.length := List.length_pos_iff.2 h0
    have hd := wfg l h00
    rw [List.drop_zero] at hd
    have hy := hl (l.getD 0 St.zero) (by rw [List.getD_eq_getElem?_getD, List.getElem?_eq_getElem (by omega)]; exact List.getElem_mem _)
    have h3 : RwS s.length x.1 (addF [] [grpF r.n x (l.getD 0 St.zero)]) := RwS.nil.add (fun z hz => by rw [List.mem_singleton] at hz; subst hz; exact ⟨hx.group hy.1 hy.2 n1 n3, hy.2⟩)
    have hadd := wvq [grpF r.n x (l.getD 0 St.zero)] (by simp) (by simp) (by have := row_len h3 hs; omega)
    have h2 := wrac s hs r n1 n3 x hx l hll hl (l.length - 1) 1 (addF [] [grpF r.n x (l.getD 0 St.zero)]) (by omega) (wfh (.inr (by simp))) h3
    have he : wwq (fun y => [grpF r.n x y]) l [] = wwq (fun y => [grpF r.n x y]) (l.drop 1) (addF [] [grpF r.n x (l.getD 0 St.zero)]) := by
      conv => lhs; rw [hd]
      rfl
    rw [he, rowO, if_neg (wplb _ _ _ (wfh (.inr (by simp))))]
    rw [wqf, show [grpF r.n x (l.getD 0 St.zero)].length = 1 from rfl, show stC (grpF r.n x (l.getD 0 St.zero)) = .int .i64 (l.getD 0 St.zero).1 :: mtC (((l.getD 0 St.zero).2.put (r.n.toNat * 2) x.1).put (r.n.toNat * 2 + 1) (l.getD 0 St.zero).1) from rfl] at hadd
    have hg := wsab (l := l) (i := 0) h00
    rw [Nat.zero_mul] at hg
    refine wab woe ?_
    unfold wne
    clear hl h3 hy he hd
    (repeat' (first | (simp -implicitDefEqProofs (maxSteps := 2000000) (disch := first | with_reducible assumption | omega | (simp only [zS, zA, seval, wy, wfb, zD] <;> omega) | fail) only [zS, argl, insA, Go.Den.wm, wo, wu, looks, wcb, wbb, idOf, riA, seval, Go.Den.wh, kK, wtd, wy, wfb, *, zT]) | (with_reducible (first | apply z1 | apply z2 | apply z3 | apply z4) <;> intro hq <;> (try simp only [zH] at hq) <;> (try (exfalso; omega)))))
    exact h2
def wweb (kids : List Rx) : Prop := ∀ r ∈ kids, ∀ y, GdS s.length y → RwS s.length y.1 (wbf s bol r y) ∧ lim Try.prog cfg (.call 75 [.agg ⟨[str s, .bool bol]⟩, .agg ⟨rxC r⟩, .agg ⟨stC y⟩]) (HP []) = some (.val (FL (wbf s bol r y).length (stsC (wbf s bol r y))), HP [])
theorem wabb (kids : List Rx) {i : Nat} (h : i < kids.length) : kids.drop i = kids.getD i Rx.zero :: kids.drop (i + 1) := by
  rw [List.drop_eq_getElem_cons h, List.getD_eq_getElem?_getD, List.getElem?_eq_getElem h]; rfl
theorem wmjb (kids : List Rx) {i : Nat} (h : i < kids.length) : kids.getD i Rx.zero ∈ kids := by
  rw [List.getD_eq_getElem?_getD, List.getElem?_eq_getElem h]; exact List.getElem_mem _
abbrev afN (x : St) : List ABlk := [X [str s, .bool bol] 138 0 true, X (stC x) 87 0 true, X [.slice none 0 0, .map (some 3)] 178 0 false, .map []]
abbrev afC (x : St) (out : List St) : List ABlk := [X [str s, .bool bol] 138 0 true, X (stC x) 87 0 true, X [FO 3 out.length (stsC out), .map (some 4)] 178 0 false, .tok out.length 87 9, .map (setK stC out)]
theorem altF_ne {x : St} : ∀ (l : List Rx) (out : List St), out ≠ [] → altF s bol l x out ≠ [] := by
  intro l
  induction l with
  | nil => intro out h; rw [altF]; exact h
  | cons r l ih => intro out h; rw [altF]; exact ih _ (wfh (.inl h))
set_option maxHeartbeats 4000000 in
theorem wtac (hs : s.length ≤ 12) (x : St) (hx : GdS s.length x) (kids : List Rx) (hll : kids.length ≤ 16000000) (hk : wweb s bol kids) :
    ∀ (j i : Nat) (out : List St), i + j = kids.length → out ≠ [] → RwS s.length x.1 out →
    lim Try.prog cfg (.loop 75 0 (wtb 1) (SE (EJ 158 G0) [(110, .int .i64 i), (109, .int .i64 kids.length), (108, FL kids.length (rxsC kids)), (11, .pointer (some ⟨2, 0, none⟩)), (5, .pointer (some ⟨1, 0, none⟩)), (3, .pointer (some ⟨0, 0, none⟩))])) (HP (afC s bol x out)) = some (.code (.exit 3) (SE (EJ 158 G0) [(11, .pointer (some ⟨0, 0, none⟩))]), HP (rowC (altF s bol (kids.drop i) x out))) := by
  intro j
  induction j with
  | zero =>
    intro i out hi ho hr
    rw [List.drop_of_length_le (by omega), altF]
    refine wab wqd ?_
    unfold wrd
    clear hk
    (repeat' (first | (simp -implicitDefEqProofs (maxSteps := 2000000) (disch := first | with_reducible assumption | omega | (simp only [zS, zA, seval, wy, zD] <;> omega) | fail) only [zS, argl, insA, Go.Den.wm, wo, wu, looks, wcb, wbb, idOf, riA, seval, Go.Den.wh, kK, wjd, wy, *, zT]) | (with_reducible (first | apply z1 | apply z2 | apply z3 | apply z4) <;> intro hq <;> (try simp only [zH] at hq) <;> (try (exfalso; omega)))))
  | succ j ih =>
    intro i out hi ho hr
    rw [wabb kids (by omega), altF]
    have ⟨h1, h4⟩ := hk _ (wmjb kids (show i < kids.length by omega)) x hx
    have h3 := hr.add h1.good
    have h5 := row_len h1 hs
    have hadd := wdo out (wbf s bol (kids.getD i Rx.zero) x) ho (by omega) (by have := row_len h3 hs; omega)
    have h2 := ih (i + 1) _ (by omega) (wfh (.inl ho)) h3
    refine wab wqd ?_
    unfold wrd
    clear ih hk h3 h1 hr
    (repeat' (first | (simp -implicitDefEqProofs (maxSteps := 2000000) (disch := first | with_reducible assumption | omega | (simp only [zS, zA, seval, wy, wfb, zD] <;> omega) | fail) only [zS, argl, insA, Go.Den.wm, wo, wu, looks, wcb, wbb, idOf, riA, seval, Go.Den.wh, kK, wjd, wy, wfb, *, zT]) | (with_reducible (first | apply z1 | apply z2 | apply z3 | apply z4) <;> intro hq <;> (try simp only [zH] at hq) <;> (try (exfalso; omega)))))
    exact h2
set_option maxHeartbeats 4000000 in
theorem wuac (hs : s.length ≤ 12) (x : St) (hx : GdS s.length x) (kids : List Rx) (hll : kids.length ≤ 16000000) (hk : wweb s bol kids) :
    ∀ (j i : Nat), i + j = kids.length →
    lim Try.prog cfg (.loop 75 0 (wtb 1) (SE (EJ 158 G0) [(110, .int .i64 i), (109, .int .i64 kids.length), (108, FL kids.length (rxsC kids)), (11, .pointer (some ⟨2, 0, none⟩)), (5, .pointer (some ⟨1, 0, none⟩)), (3, .pointer (some ⟨0, 0, none⟩))])) (HP (afN s bol x)) = some (.code (.exit 3) (SE (EJ 158 G0) [(11, .pointer (some ⟨0, 0, none⟩))]), HP (rowO (altF s bol (kids.drop i) x []))) := by
  intro j
  induction j with
  | zero =>
    intro i hi
    rw [List.drop_of_length_le (by omega), altF]
    refine wab wqd ?_
    unfold wrd
    clear hk
    (repeat' (first | (simp -implicitDefEqProofs (maxSteps := 2000000) (disch := first | with_reducible assumption | omega | (simp only [zS, zA, seval, wy, zD] <;> omega) | fail) only [zS, argl, insA, Go.Den.wm, wo, wu, looks, wcb, wbb, idOf, riA, seval, Go.Den.wh, kK, wjd, wy, *, zT]) | (with_reducible (first | apply z1 | apply z2 | apply z3 | apply z4) <;> intro hq <;> (try simp only [zH] at hq) <;> (try (exfalso; omega)))))
    all_goals rfl
  | succ j ih =>
    intro i hi
    rw [wabb kids (by omega), altF]
    have ⟨h1, h4⟩ := hk _ (wmjb kids (show i < kids.length by omega)) x hx
    have h3 := (RwS.nil (len := s.length) (a := x.1)).add h1.good
    have h5 := row_len h1 hs
    by_cases hz : wbf s bol (kids.getD i Rx.zero) x = []
    · have h2 := ih (i + 1) (by omega)
      rw [hz] at h4 ⊢
      rw [List.length_nil, wtab] at h4
      refine wab wqd ?_
      unfold wrd
      clear ih hk h3 h1 h5 hz
      (repeat' (first | (simp -implicitDefEqProofs (maxSteps := 2000000) (disch := first | with_reducible assumption | omega | (simp only [zS, zA, seval, wy, wfb, zD] <;> omega) | fail) only [zS, argl, insA, Go.Den.wm, wo, wu, looks, wcb, wbb, idOf, riA, seval, Go.Den.wh, kK, wjd, wy, wfb, wolb, *, zT]) | (with_reducible (first | apply z1 | apply z2 | apply z3 | apply z4) <;> intro hq <;> (try simp only [zH] at hq) <;> (try (exfalso; omega)))))
      exact h2
    · have hadd := wvq (wbf s bol (kids.getD i Rx.zero) x) hz (by omega) (by have := row_len h3 hs; omega)
      have h2 := wtac s bol hs x hx kids hll hk j (i + 1) (addF [] (wbf s bol (kids.getD i Rx.zero) x)) (by omega) (wfh (.inr hz)) h3
      rw [rowO, if_neg (altF_ne s bol _ _ (wfh (.inr hz)))]
      refine wab wqd ?_
      unfold wrd
      clear ih hk h3 h1
      (repeat' (first | (simp -implicitDefEqProofs (maxSteps := 2000000) (disch := first | with_reducible assumption | omega | (simp only [zS, zA, seval, wy, wfb, zD] <;> omega) | fail) only [zS, argl, insA, Go.Den.wm, wo, wu, looks, wcb, wbb, idOf, riA, seval, Go.Den.wh, kK, wjd, wy, wfb, *, zT]) | (with_reducible (first | apply z1 | apply z2 | apply z3 | apply z4) <;> intro hq <;> (try simp only [zH] at hq) <;> (try (exfalso; omega)))))
      exact h2
set_option maxHeartbeats 4000000 in
theorem cat_loop (hs : s.length ≤ 12) (a : Int) (kids : List Rx) (hll : kids.length ≤ 16000000) (hk : wweb s bol kids) :
    ∀ (j i : Nat) (l : List St), i + j = kids.length → RwS s.length a l →
    lim Try.prog cfg (.loop 75 0 (wtb 2) (SE (EJ 158 G0) [(130, .int .i64 i), (129, .int .i64 kids.length), (128, FL kids.length (rxsC kids)), (7, FL l.length (stsC l)), (3, .pointer (some ⟨0, 0, none⟩))])) (HP [X [str s, .bool bol] 138 0 true]) = some (.code (.exit 5) (SE (EJ 158 G0) [(7, FL (catF s bol (kids.drop i) l).length (stsC (catF s bol (kids.drop i) l)))]), HP []) := by
  intro j
  induction j with
  | zero =>
    intro i l hi hr
    rw [List.drop_of_length_le (by omega), catF]
    refine wab wqe ?_
    unfold wpe
    clear hk
    (repeat' (first | (simp -implicitDefEqProofs (maxSteps := 2000000) (disch := first | with_reducible assumption | omega | (simp only [zS, zA, seval, wy, zD] <;> omega) | fail) only [zS, argl, insA, Go.Den.wm, wo, wu, looks, wcb, wbb, idOf, riA, seval, Go.Den.wh, kK, wud, wy, *, zT]) | (with_reducible (first | apply z1 | apply z2 | apply z3 | apply z4) <;> intro hq <;> (try simp only [zH] at hq) <;> (try (exfalso; omega)))))
  | succ j ih =>
    intro i l hi hr
    rw [wabb kids (by omega), catF]
    have hw := hk _ (wmjb kids (show i < kids.length by omega))
    have hf := wnac s hs bol (kids.getD i Rx.zero) (fun y => wbf s bol (kids.getD i Rx.zero) y) a l (by have := row_len hr hs; omega) hr.good hw
    have h3 : RwS s.length a (wuw (fun y => wbf s bol (kids.getD i Rx.zero) y) l) := by
      refine RwS.fold _ l (fun z hz y hy => ?_) [] .nil
      have h1 := hr.good z hz
      have h2 := (hw z h1.1).1.good y hy
      exact ⟨h2.1, by omega⟩
    have h2 := ih (i + 1) _ (by omega) h3
    generalize wuw (fun y => wbf s bol (kids.getD i Rx.zero) y) l = l2 at hf h2 ⊢
    refine wab wqe ?_
    unfold wpe
    clear ih hk hw h3
    (repeat' (first | (simp -implicitDefEqProofs (maxSteps := 2000000) (disch := first | with_reducible assumption | omega | (simp only [zS, zA, seval, wy, wfb, zD] <;> omega) | fail) only [zS, argl, insA, Go.Den.wm, wo, wu, looks, wcb, wbb, idOf, riA, seval, Go.Den.wh, kK, wud, wy, wfb, *, zT]) | (with_reducible (first | apply z1 | apply z2 | apply z3 | apply z4) <;> intro hq <;> (try simp only [zH] at hq) <;> (try (exfalso; omega)))))
    exact h2
end
end
end Go.Proofs.Ytgpabbbibmnnlaa
namespace Go.Proofs.Ytgpabbbibmnnlaa
set_option linter.unusedVariables false
set_option linter.unusedSimpArgs false
open Go.Den
noncomputable section
theorem wnjb (n : Int) (x : St) (l : List St) : groupW n x l = wwq (fun y => [grpF n x y]) l [] := rfl
section
variable (s : List UInt8) (bol : Bool)
def wvac (r : Rx) : Prop := ∀ y, GdS s.length y → lim Try.prog cfg (.call 75 [.agg ⟨[str s, .bool bol]⟩, .agg ⟨rxC r⟩, .agg ⟨stC y⟩]) (HP []) = some (.val (FL (wbf s bol r y).length (stsC (wbf s bol r y))), HP [])
set_option maxHeartbeats 8000000 in
theorem wwac (hs : s.length ≤ 12) (k mn mx n : Int) (set : BitVec 256) (kids : List Rx) (hlen : kids.length ≤ 16000000) (hok : okR (.mk k mn mx n set kids) = true) (ih : wweb s bol kids) : wvac s bol (.mk k mn mx n set kids) := by
  intro x hx
  have hlo := hx.lo
  have hhi := hx.hi
  have hrow := wbt (s := s) rfl (bol := bol) _ hok x hx
  refine wec hc wfp (Nat.le_of_ble_eq_true rfl) (Nat.le_of_ble_eq_true rfl) ?_
  unfold wam
  rw [wbf] at hrow ⊢
  rw [okR, Bool.and_eq_true] at hok
  have hok1 := hok.1
  clear hok
  by_cases h1 : k = 1
  · rw [if_pos h1]
    subst h1
    clear ih hrow hok1
    by_cases hx1 : x.1 < s.length
    · have hhas := ev_Has set ((s.getD x.1.toNat 0).toNat) (by have := (s.getD x.1.toNat 0).toNat_lt; omega)
      by_cases hb : set.getLsbD (s.getD x.1.toNat 0).toNat = true
      · rw [if_pos ⟨hx1, hb⟩]
        rw [hb] at hhas
        (repeat' (first | (simp -implicitDefEqProofs (maxSteps := 2000000) (disch := first | with_reducible assumption | omega | (simp only [zS, zA, seval, wvzb, zD] <;> omega) | fail) only [zS, argl, insA, Go.Den.wm, wo, wu, looks, wcb, wbb, idOf, riA, seval, Go.Den.wh, kK, *, zT]) | (with_reducible (first | apply z1 | apply z2 | apply z3 | apply z4) <;> intro hq <;> (try simp only [zH] at hq) <;> (try (exfalso; omega))) | (with_reducible apply z5; (case hl => (repeat (first | exact .nil | with_reducible apply z6 | with_reducible apply z7))); (case h => kernel_rfl))))
      · rw [if_neg (fun h => hb h.2)]
        have hb2 : set.getLsbD (s.getD x.1.toNat 0).toNat = false := by simpa using hb
        rw [hb2] at hhas
        clear hb
        (repeat' (first | (simp -implicitDefEqProofs (maxSteps := 2000000) (disch := first | with_reducible assumption | omega | (simp only [zS, zA, seval, zD] <;> omega) | fail) only [zS, argl, insA, Go.Den.wm, wo, wu, looks, wcb, wbb, idOf, riA, seval, Go.Den.wh, kK, *, zT]) | (with_reducible (first | apply z1 | apply z2 | apply z3 | apply z4) <;> intro hq <;> (try simp only [zH] at hq) <;> (try (exfalso; omega))) | (with_reducible apply z5; (case hl => (repeat (first | exact .nil | with_reducible apply z6 | with_reducible apply z7))); (case h => kernel_rfl))))
    · rw [if_neg (fun h => hx1 h.1)]
      (repeat' (first | (simp -implicitDefEqProofs (maxSteps := 2000000) (disch := first | with_reducible assumption | omega | (simp only [zS, zA, seval, zD] <;> omega) | fail) only [zS, argl, insA, Go.Den.wm, wo, wu, looks, wcb, wbb, idOf, riA, seval, Go.Den.wh, kK, *, zT]) | (with_reducible (first | apply z1 | apply z2 | apply z3 | apply z4) <;> intro hq <;> (try simp only [zH] at hq) <;> (try (exfalso; omega))) | (with_reducible apply z5; (case hl => (repeat (first | exact .nil | with_reducible apply z6 | with_reducible apply z7))); (case h => kernel_rfl))))
  rw [if_neg h1] at hrow ⊢
  by_cases h7 : k = 7
  · rw [if_pos h7]
    subst h7
    clear ih hrow hok1
    by_cases hx1 : x.1 = 0
    · cases bol with
      | true =>
        rw [if_pos ⟨hx1, rfl⟩]
        (repeat' (first | (simp -implicitDefEqProofs (maxSteps := 2000000) (disch := first | with_reducible assumption | omega | (simp only [zS, zA, seval, wms, zD] <;> omega) | fail) only [zS, argl, insA, Go.Den.wm, wo, wu, looks, wcb, wbb, idOf, riA, seval, Go.Den.wh, kK, wy, *, zT]) | (with_reducible (first | apply z1 | apply z2 | apply z3 | apply z4) <;> intro hq <;> (try simp only [zH] at hq) <;> (try (exfalso; omega))) | (with_reducible apply z5; (case hl => (repeat (first | exact .nil | with_reducible apply z6 | with_reducible apply z7))); (case h => kernel_rfl))))
      | false =>
        rw [if_neg (fun h => by cases h.2)]
        (repeat' (first | (simp -implicitDefEqProofs (maxSteps := 2000000) (disch := first | with_reducible assumption | omega | (simp only [zS, zA, seval, zD] <;> omega) | fail) only [zS, argl, insA, Go.Den.wm, wo, wu, looks, wcb, wbb, idOf, riA, seval, Go.Den.wh, kK, *, zT]) | (with_reducible (first | apply z1 | apply z2 | apply z3 | apply z4) <;> intro hq <;> (try simp only [zH] at hq) <;> (try (exfalso; omega))) | (with_reducible apply z5; (case hl => (repeat (first | exact .nil | with_reducible apply z6 | with_reducible apply z7))); (case h => kernel_rfl))))
    · rw [if_neg (fun h => hx1 h.1)]
      (repeat' (first | (simp -implicitDefEqProofs (maxSteps := 2000000) (disch := first | with_reducible assumption | omega | (simp only [zS, zA, seval, zD] <;> omega) | fail) only [zS, argl, insA, Go.Den.wm, wo, wu, looks, wcb, wbb, idOf, riA, seval, Go.Den.wh, kK, *, zT]) | (with_reducible (first | apply z1 | apply z2 | apply z3 | apply z4) <;> intro hq <;> (try simp only [zH] at hq) <;> (try (exfalso; omega))) | (with_reducible apply z5; (case hl => (repeat (first | exact .nil | with_reducible apply z6 | with_reducible apply z7))); (case h => kernel_rfl))))
  rw [if_neg h7] at hrow ⊢
  by_cases h8 : k = 8
  · rw [if_pos h8]
    subst h8
    clear ih hrow hok1
    by_cases hx1 : x.1 = s.length
    · rw [if_pos hx1]
      (repeat' (first | (simp -implicitDefEqProofs (maxSteps := 2000000) (disch := first | with_reducible assumption | omega | (simp only [zS, zA, seval, wms, zD] <;> omega) | fail) only [zS, argl, insA, Go.Den.wm, wo, wu, looks, wcb, wbb, idOf, riA, seval, Go.Den.wh, kK, *, zT]) | (with_reducible (first | apply z1 | apply z2 | apply z3 | apply z4) <;> intro hq <;> (try simp only [zH] at hq) <;> (try (exfalso; omega))) | (with_reducible apply z5; (case hl => (repeat (first | exact .nil | with_reducible apply z6 | with_reducible apply z7))); (case h => kernel_rfl))))
    · rw [if_neg hx1]
      (repeat' (first | (simp -implicitDefEqProofs (maxSteps := 2000000) (disch := first | with_reducible assumption | omega | (simp only [zS, zA, seval, zD] <;> omega) | fail) only [zS, argl, insA, Go.Den.wm, wo, wu, looks, wcb, wbb, idOf, riA, seval, Go.Den.wh, kK, *, zT]) | (with_reducible (first | apply z1 | apply z2 | apply z3 | apply z4) <;> intro hq <;> (try simp only [zH] at hq) <;> (try (exfalso; omega))) | (with_reducible apply z5; (case hl => (repeat (first | exact .nil | with_reducible apply z6 | with_reducible apply z7))); (case h => kernel_rfl))))
  rw [if_neg h8] at hrow ⊢
  by_cases h6 : k = 6
  · rw [if_pos h6]
    rw [if_neg (by omega), if_neg (by omega), if_pos h6] at hok1
    simp only [Bool.and_eq_true, decide_eq_true_eq] at hok1
    subst h6
    clear ih hrow
    have hb := ev_back s (by omega) bol n hok1.1 hok1.2 x hx
    (repeat' (first | (simp -implicitDefEqProofs (maxSteps := 2000000) (disch := first | with_reducible assumption | omega | (simp only [zS, zA, seval, zD] <;> omega) | fail) only [zS, argl, insA, Go.Den.wm, wo, wu, looks, wcb, wbb, idOf, riA, seval, Go.Den.wh, kK, *, zT]) | (with_reducible (first | apply z1 | apply z2 | apply z3 | apply z4) <;> intro hq <;> (try simp only [zH] at hq) <;> (try (exfalso; omega))) | (with_reducible apply z5; (case hl => (repeat (first | exact .nil | with_reducible apply z6 | with_reducible apply z7))); (case h => kernel_rfl))))
  rw [if_neg h6] at hrow ⊢
  by_cases h5 : k = 5
  · rw [if_pos h5] at hrow ⊢
    rw [if_pos h5] at hok1
    simp only [Bool.and_eq_true, decide_eq_true_eq] at hok1
    subst h5
    cases kids with
    | nil => exact absurd rfl hok1.1
    | cons kid rest =>
      rw [kidF, wnjb]
      have ⟨r1, r2⟩ := ih kid (List.mem_cons_self ..) x hx
      have r3 := row_len r1 hs
      have hl := wsac s hs (.mk 5 mn mx n set (kid :: rest)) hok1.2.1 hok1.2.2 x hx (wbf s bol kid x) (by omega) r1.good
      have hk : slotsOf (rxsC (kid :: rest)) 0 9 = rxC kid := by
        have := wuq (l := kid :: rest) (i := 0) (by simp)
        rwa [Nat.zero_mul] at this
      rw [rx_n] at hl
      clear ih r1 hrow
      generalize wwq (fun y => [grpF n x y]) (wbf s bol kid x) [] = out at hl ⊢
      by_cases ho : out = []
      · subst ho
        rw [rowO, if_pos rfl] at hl
        (repeat' (first | (simp -implicitDefEqProofs (maxSteps := 2000000) (disch := first | with_reducible assumption | omega | (simp only [zS, zA, seval, wy, wfb, zD] <;> omega) | fail) only [zS, argl, insA, Go.Den.wm, wo, wu, looks, wcb, wbb, idOf, riA, seval, Go.Den.wh, kK, wtd, wy, wfb, woi, *, zT]) | (with_reducible (first | apply z1 | apply z2 | apply z3 | apply z4) <;> intro hq <;> (try simp only [zH] at hq) <;> (try (exfalso; omega))) | (with_reducible apply z5; (case hl => (repeat (first | exact .nil | with_reducible apply z6 | with_reducible apply z7))); (case h => kernel_rfl))))
      · rw [rowO, if_neg ho] at hl
        (repeat' (first | (simp -implicitDefEqProofs (maxSteps := 2000000) (disch := first | with_reducible assumption | omega | (simp only [zS, zA, seval, wy, wfb, zD] <;> omega) | fail) only [zS, argl, insA, Go.Den.wm, wo, wu, looks, wcb, wbb, idOf, riA, seval, Go.Den.wh, kK, wtd, wy, wfb, woi, *, zT]) | (with_reducible (first | apply z1 | apply z2 | apply z3 | apply z4) <;> intro hq <;> (try simp only [zH] at hq) <;> (try (exfalso; omega))) | (with_reducible apply z5; (case hl => (repeat (first | exact .nil | with_reducible apply z6 | with_reducible apply z7))); (case h => kernel_rfl))))
  rw [if_neg h5] at hrow ⊢
  by_cases h3 : k = 3
  · rw [if_pos h3]
    subst h3
    have hl := wuac s bol hs x hx kids hlen ih kids.length 0 (by omega)
    rw [List.drop_zero, show ((0 : Nat) : Int) = 0 from rfl] at hl
    clear ih hrow hok1
    generalize altF s bol kids x [] = out at hl ⊢
    by_cases ho : out = []
    · subst ho
      rw [rowO, if_pos rfl] at hl
      (repeat' (first | (simp -implicitDefEqProofs (maxSteps := 2000000) (disch := first | with_reducible assumption | omega | (simp only [zS, zA, seval, wy, wfb, zD] <;> omega) | fail) only [zS, argl, insA, Go.Den.wm, wo, wu, looks, wcb, wbb, idOf, riA, seval, Go.Den.wh, kK, wjd, wy, wfb, woi, *, zT]) | (with_reducible (first | apply z1 | apply z2 | apply z3 | apply z4) <;> intro hq <;> (try simp only [zH] at hq) <;> (try (exfalso; omega))) | (with_reducible apply z5; (case hl => (repeat (first | exact .nil | with_reducible apply z6 | with_reducible apply z7))); (case h => kernel_rfl))))
    · rw [rowO, if_neg ho] at hl
      (repeat' (first | (simp -implicitDefEqProofs (maxSteps := 2000000) (disch := first | with_reducible assumption | omega | (simp only [zS, zA, seval, wy, wfb, zD] <;> omega) | fail) only [zS, argl, insA, Go.Den.wm, wo, wu, looks, wcb, wbb, idOf, riA, seval, Go.Den.wh, kK, wjd, wy, wfb, woi, *, zT]) | (with_reducible (first | apply z1 | apply z2 | apply z3 | apply z4) <;> intro hq <;> (try simp only [zH] at hq) <;> (try (exfalso; omega))) | (with_reducible apply z5; (case hl => (repeat (first | exact .nil | with_reducible apply z6 | with_reducible apply z7))); (case h => kernel_rfl))))
  rw [if_neg h3] at hrow ⊢
  by_cases h2 : k = 2
  · rw [if_pos h2]
    subst h2
    cases kids with
    | nil =>
      rw [catF]
      have hl : lim Try.prog cfg (.loop 75 0 (wtb 2) (SE (EJ 158 G0) [(130, .int .i64 0), (129, .int .i64 0), (128, FL 0 []), (7, .slice (some ⟨1, 0, none⟩) 1 2), (3, .pointer (some ⟨0, 0, none⟩))])) (HP [X [str s, .bool bol] 138 0 true, X (stC x) 87 0 true]) = some (.code (.exit 5) (SE (EJ 158 G0) [(7, .slice (some ⟨0, 0, none⟩) 1 2)]), HP [X (stC x) 87 0 true]) := by
        refine wab wqe ?_
        unfold wpe
        clear ih hrow
        (repeat' (first | (simp -implicitDefEqProofs (maxSteps := 2000000) (disch := first | with_reducible assumption | omega | (simp only [zS, zA, seval, zD] <;> omega) | fail) only [zS, argl, insA, Go.Den.wm, wo, wu, looks, wcb, wbb, idOf, riA, seval, Go.Den.wh, kK, wud, *, zT]) | (with_reducible (first | apply z1 | apply z2 | apply z3 | apply z4) <;> intro hq <;> (try simp only [zH] at hq) <;> (try (exfalso; omega))) | (with_reducible apply z5; (case hl => (repeat (first | exact .nil | with_reducible apply z6 | with_reducible apply z7))); (case h => kernel_rfl))))
      clear ih hrow hok1
      (repeat' (first | (simp -implicitDefEqProofs (maxSteps := 2000000) (disch := first | with_reducible assumption | omega | (simp only [zS, zA, seval, zD] <;> omega) | fail) only [zS, argl, insA, Go.Den.wm, wo, wu, looks, wcb, wbb, idOf, riA, seval, Go.Den.wh, kK, wud, rxsC, Int.natCast_zero, *, zT]) | (with_reducible (first | apply z1 | apply z2 | apply z3 | apply z4) <;> intro hq <;> (try simp only [zH] at hq) <;> (try (exfalso; omega))) | (with_reducible apply z5; (case hl => (repeat (first | exact .nil | with_reducible apply z6 | with_reducible apply z7))); (case h => kernel_rfl))))
    | cons kid rest =>
      rw [catF]
      have hw := ih kid (List.mem_cons_self ..)
      have hf := wnac s hs bol kid (fun y => wbf s bol kid y) x.1 [x] (by simp) (fun y hy => by rw [List.mem_singleton] at hy; subst hy; exact ⟨hx, Int.le_refl _⟩) hw
      have hr : RwS s.length x.1 (wuw (fun y => wbf s bol kid y) [x]) := by
        refine RwS.fold _ [x] (fun z hz y hy => ?_) [] .nil
        rw [List.mem_singleton] at hz
        subst hz
        exact (hw z hx).1.good y hy
      have hl := cat_loop s bol hs x.1 (kid :: rest) hlen ih rest.length 1 _ (by simp; omega) hr
      rw [show (kid :: rest).drop 1 = rest from rfl, show ((1 : Nat) : Int) = 1 from rfl] at hl
      rw [wqf, show [x].length = 1 from rfl] at hf
      have hk : slotsOf (rxsC (kid :: rest)) 0 9 = rxC kid := by
        have := wuq (l := kid :: rest) (i := 0) (by simp)
        rwa [Nat.zero_mul] at this
      have hkl : 0 < (kid :: rest).length := by simp
      have hkc : 9 ≤ (rxsC (kid :: rest)).length := by rw [wvab, List.length_cons]; omega
      rw [List.length_cons] at hl
      generalize wuw (fun y => wbf s bol kid y) [x] = l1 at hf hl ⊢
      have hl0 : lim Try.prog cfg (.loop 75 0 (wtb 2) (SE (EJ 158 G0) [(130, .int .i64 0), (129, .int .i64 (rest.length + 1 : Nat)), (128, FL (rest.length + 1) (rxsC (kid :: rest))), (7, .slice (some ⟨1, 0, none⟩) 1 2), (3, .pointer (some ⟨0, 0, none⟩))])) (HP [X [str s, .bool bol] 138 0 true, X (stC x) 87 0 true]) = some (.code (.exit 5) (SE (EJ 158 G0) [(7, FL (catF s bol rest l1).length (stsC (catF s bol rest l1)))]), HP []) := by
        refine wab wqe ?_
        unfold wpe
        clear ih hrow hw hok1
        generalize rxsC (kid :: rest) = KC at *
        (repeat' (first | (simp -implicitDefEqProofs (maxSteps := 2000000) (disch := first | with_reducible assumption | omega | (simp only [zS, zA, seval, zD] <;> omega) | fail) only [zS, argl, insA, Go.Den.wm, wo, wu, looks, wcb, wbb, idOf, riA, seval, Go.Den.wh, kK, wud, *, zT]) | (with_reducible (first | apply z1 | apply z2 | apply z3 | apply z4) <;> intro hq <;> (try simp only [zH] at hq) <;> (try (exfalso; omega))) | (with_reducible apply z5; (case hl => (repeat (first | exact .nil | with_reducible apply z6 | with_reducible apply z7))); (case h => kernel_rfl))))
      clear ih hrow hok1 hw hl hf
      (repeat' (first | (simp -implicitDefEqProofs (maxSteps := 2000000) (disch := first | with_reducible assumption | omega | (simp only [zS, zA, seval, zD] <;> omega) | fail) only [zS, argl, insA, Go.Den.wm, wo, wu, looks, wcb, wbb, idOf, riA, seval, Go.Den.wh, kK, wud, *, zT]) | (with_reducible (first | apply z1 | apply z2 | apply z3 | apply z4) <;> intro hq <;> (try simp only [zH] at hq) <;> (try (exfalso; omega))) | (with_reducible apply z5; (case hl => (repeat (first | exact .nil | with_reducible apply z6 | with_reducible apply z7))); (case h => kernel_rfl))))
  rw [if_neg h2] at hrow ⊢
  by_cases h4 : k = 4
  · rw [if_pos h4]
    rw [if_neg (by omega), if_pos h4] at hok1
    simp only [Bool.and_eq_true, decide_eq_true_eq] at hok1
    subst h4
    cases kids with
    | nil => exact absurd rfl hok1.1
    | cons kid rest =>
      have hw := ih kid (List.mem_cons_self ..)
      have hk : slotsOf (rxsC (kid :: rest)) 0 9 = rxC kid := by
        have := wuq (l := kid :: rest) (i := 0) (by simp)
        rwa [Nat.zero_mul] at this
      have hf : (fun y => kidF s bol (kid :: rest) y) = fun y => wbf s bol kid y := by funext y; rw [kidF]
      rw [hf]
      have hon := (on_all s bol mn mx n set (kid :: rest) hs ⟨hok1.2.1, hok1.2.2.1⟩ hok1.2.2.2.2 (fun y => wbf s bol kid y) x.1 ⟨kid, hk, by simp, hw⟩ 100).2 0 x [] (by omega) (by omega) hx (Int.le_refl _) (by unfold muF; split <;> omega)
      rcases hq : onF (fun y => wbf s bol kid y) mn mx 100 0 x ([], []) with ⟨met, out⟩
      rw [hq] at hon
      clear ih hrow hw hk hf hq hok1
      by_cases ho : out = []
      · subst ho
        rw [reO, if_pos rfl] at hon
        simp only [reN, repB, wmlb, List.length_cons] at hon
        (repeat' (first | (simp -implicitDefEqProofs (maxSteps := 2000000) (disch := first | with_reducible assumption | omega | (simp only [zS, zA, seval, wy, wfb, wmb, zD] <;> omega) | fail) only [zS, argl, insA, Go.Den.wm, wo, wu, looks, wcb, wbb, idOf, riA, seval, Go.Den.wh, kK, wy, wfb, wmb, woi, wrv, wcf, *, zT]) | (with_reducible (first | apply z1 | apply z2 | apply z3 | apply z4) <;> intro hq <;> (try simp only [zH] at hq) <;> (try (exfalso; omega))) | (with_reducible apply z5; (case hl => (repeat (first | exact .nil | with_reducible apply z6 | with_reducible apply z7))); (case h => kernel_rfl))))
      · rw [reO, if_neg ho] at hon
        simp only [reE, reN, repB, wmlb, List.length_cons] at hon
        (repeat' (first | (simp -implicitDefEqProofs (maxSteps := 2000000) (disch := first | with_reducible assumption | omega | (simp only [zS, zA, seval, wy, wfb, wmb, zD] <;> omega) | fail) only [zS, argl, insA, Go.Den.wm, wo, wu, looks, wcb, wbb, idOf, riA, seval, Go.Den.wh, kK, wy, wfb, wmb, woi, wrv, wcf, *, zT]) | (with_reducible (first | apply z1 | apply z2 | apply z3 | apply z4) <;> intro hq <;> (try simp only [zH] at hq) <;> (try (exfalso; omega))) | (with_reducible apply z5; (case hl => (repeat (first | exact .nil | with_reducible apply z6 | with_reducible apply z7))); (case h => kernel_rfl))))
  rw [if_neg h4]
  clear ih hrow hok1
  (repeat' (first | (simp -implicitDefEqProofs (maxSteps := 2000000) (disch := first | with_reducible assumption | omega | (simp only [zS, zA, seval, zD] <;> omega) | fail) only [zS, argl, insA, Go.Den.wm, wo, wu, looks, wcb, wbb, idOf, riA, seval, Go.Den.wh, kK, *, zT]) | (with_reducible (first | apply z1 | apply z2 | apply z3 | apply z4) <;> intro hq <;> (try simp only [zH] at hq) <;> (try (exfalso; omega))) | (with_reducible apply z5; (case hl => (repeat (first | exact .nil | with_reducible apply z6 | with_reducible apply z7))); (case h => kernel_rfl))))
end
end
end Go.Proofs.Ytgpabbbibmnnlaa
namespace Go.Proofs.Ytgpabbbibmnnlaa
set_option linter.unusedVariables false
set_option linter.unusedSimpArgs false
open Go.Den
noncomputable section
abbrev ints (l : List Int) : List Value := l.map (Value.int .i64)
theorem wslb {l : List Int} {i : Nat} (h : i < l.length) : (ints l)[i]? = some (.int .i64 (l.getD i 0)) := by
  rw [ints, List.getElem?_map, List.getD_eq_getElem?_getD, List.getElem?_eq_getElem h]; rfl
theorem wah {l : List Int} : (ints l).length = l.length := List.length_map ..
theorem int_drop (l : List Int) {i : Nat} (h : i < l.length) : l.drop i = l.getD i 0 :: l.drop (i + 1) := by
  rw [List.drop_eq_getElem_cons h, List.getD_eq_getElem?_getD, List.getElem?_eq_getElem h]; rfl
theorem wsr (l : List Rx) {i : Nat} (h : i < l.length) : l.drop i = l.getD i Rx.zero :: l.drop (i + 1) := by
  rw [List.drop_eq_getElem_cons h, List.getD_eq_getElem?_getD, List.getElem?_eq_getElem h]; rfl
def fstF {α : Type} (p : α → Bool) : List α → Nat → Option Nat
  | [], _ => none
  | a :: l, i => if p a = true then some i else fstF p l (i + 1)
def fstV : Option Nat → Int
  | none => -1
  | some j => j
theorem wxac {α : Type} (p : α → Bool) : ∀ (l : List α) (i : Nat), decide (0 ≤ fstV (fstF p l i)) = l.any p := by
  intro l
  induction l with
  | nil => intro i; rfl
  | cons a l ih =>
    intro i
    rw [fstF, List.any_cons]
    by_cases h : p a = true
    · rw [if_pos h, h]; simp [fstV]
    · rw [if_neg h, ih]; simp [h]
theorem wyb {P : Program} {cs : wcc} {R : Type} {K : KR R} {d : Option Tmp} {l : List RO} {e : Env} {H : AH} {wr : List Nat} {want : Bool} {x : ARes} : wxdb P cs K d l e H wr want x undef = opsR P cs K l (e.put d undef) H := by cases want <;> rfl
theorem wic {want : Bool} : wwo want undef = some false := by cases want <;> rfl
theorem wdb : refs JK = [] := rfl
theorem wjb {m : Nm} : renV m JK = JK := rfl
theorem ej19 : (EJ 19 G0).get 4 = JK := rfl
def fstO (n : Nat) : Option Nat → Option (Out × AH)
  | none => some (.code (.exit 0) (SE (EJ n G0) [(4, JK)]), HP [])
  | some j => some (.code .ret (SE (EJ n G0) [(4, .int .i64 j)]), HP [])
theorem idx_loop (l : List Int) (hl : l.length ≤ 16000000) (v : Int) : ∀ (k i : Nat), i + k = l.length →
    lim Try.prog cfg (.loop 173 0 (wxd 0) (SE (EJ 19 G0) [(8, .int .i64 i), (7, .int .i64 l.length), (1, .int .i64 v), (0, FL l.length (ints l))])) (HP []) = fstO 19 (fstF (fun a => decide (v = a)) (l.drop i) i) := by
  intro k
  induction k with
  | zero =>
    intro i hi
    rw [List.drop_of_length_le (by omega), fstF, fstO]
    refine wab wed ?_
    unfold wad
    (repeat' (first | (simp -implicitDefEqProofs (maxSteps := 2000000) (disch := first | with_reducible assumption | omega | (simp only [zS, zA, seval, wdb, wjb] <;> omega) | fail) only [zS, argl, insA, Go.Den.wm, wo, wu, looks, wcb, wbb, idOf, riA, seval, Go.Den.wh, kK, woc, wah, wdb, wjb, ej19, *]) | (with_reducible (first | apply z1 | apply z2 | apply z3 | apply z4) <;> intro hq <;> (try simp only [zH] at hq) <;> (try (exfalso; omega)))))
  | succ k ih =>
    intro i hi
    rw [int_drop l (by omega), fstF]
    have h := ih (i + 1) (by omega)
    clear ih
    have hg := wslb (l := l) (i := i) (by omega)
    by_cases hv : v = l.getD i 0
    · rw [if_pos (by simpa using hv), fstO]
      clear h
      refine wab wed ?_
      unfold wad
      (repeat' (first | (simp -implicitDefEqProofs (maxSteps := 2000000) (disch := first | with_reducible assumption | omega | (simp only [zS, zA, seval, wdb, wjb] <;> omega) | fail) only [zS, argl, insA, Go.Den.wm, wo, wu, looks, wcb, wbb, idOf, riA, seval, Go.Den.wh, kK, woc, wah, wdb, wjb, ej19, *]) | (with_reducible (first | apply z1 | apply z2 | apply z3 | apply z4) <;> intro hq <;> (try simp only [zH] at hq) <;> (try (exfalso; omega)))))
    · rw [if_neg (by simpa using hv)]
      generalize fstF (fun a => decide (v = a)) (l.drop (i + 1)) (i + 1) = o at h ⊢
      cases o with
      | none =>
        rw [fstO] at h ⊢
        refine wab wed ?_
        unfold wad
        (repeat' (first | (simp -implicitDefEqProofs (maxSteps := 2000000) (disch := first | with_reducible assumption | omega | (simp only [zS, zA, seval, wdb, wjb] <;> omega) | fail) only [zS, argl, insA, Go.Den.wm, wo, wu, looks, wcb, wbb, idOf, riA, seval, Go.Den.wh, kK, woc, wah, wdb, wjb, ej19, *]) | (with_reducible (first | apply z1 | apply z2 | apply z3 | apply z4) <;> intro hq <;> (try simp only [zH] at hq) <;> (try (exfalso; omega)))))
        exact h
      | some j =>
        rw [fstO] at h ⊢
        refine wab wed ?_
        unfold wad
        (repeat' (first | (simp -implicitDefEqProofs (maxSteps := 2000000) (disch := first | with_reducible assumption | omega | (simp only [zS, zA, seval, wdb, wjb] <;> omega) | fail) only [zS, argl, insA, Go.Den.wm, wo, wu, looks, wcb, wbb, idOf, riA, seval, Go.Den.wh, kK, woc, wah, wdb, wjb, ej19, *]) | (with_reducible (first | apply z1 | apply z2 | apply z3 | apply z4) <;> intro hq <;> (try simp only [zH] at hq) <;> (try (exfalso; omega)))))
        exact h
theorem ev_Index (l : List Int) (hl : l.length ≤ 16000000) (v : Int) : lim Try.prog cfg (.call 173 [FL l.length (ints l), .int .i64 v]) (HP []) = some (.val (.int .i64 (fstV (fstF (fun a => decide (v = a)) l 0))), HP []) := by
  refine wec hc wsj (Nat.le_of_ble_eq_true rfl) (Nat.le_of_ble_eq_true rfl) ?_
  unfold wrh
  have h := idx_loop l hl v l.length 0 (by omega)
  rw [List.drop_zero, show ((0 : Nat) : Int) = 0 from rfl] at h
  generalize fstF (fun a => decide (v = a)) l 0 = o at h ⊢
  rcases o with _ | j
  · rw [fstO] at h
    (repeat' (first | (simp -implicitDefEqProofs (maxSteps := 2000000) (disch := first | with_reducible assumption | omega | (simp only [zS, zA, seval, wdb, wjb] <;> omega) | fail) only [zS, argl, insA, Go.Den.wm, wo, wu, looks, wcb, wbb, idOf, riA, seval, Go.Den.wh, kK, woc, wah, wdb, wjb, ej19, fstV, *]) | (with_reducible (first | apply z1 | apply z2 | apply z3 | apply z4) <;> intro hq <;> (try simp only [zH] at hq) <;> (try (exfalso; omega)))))
  · rw [fstO] at h
    (repeat' (first | (simp -implicitDefEqProofs (maxSteps := 2000000) (disch := first | with_reducible assumption | omega | (simp only [zS, zA, seval, wdb, wjb] <;> omega) | fail) only [zS, argl, insA, Go.Den.wm, wo, wu, looks, wcb, wbb, idOf, riA, seval, Go.Den.wh, kK, woc, wah, wdb, wjb, ej19, fstV, *]) | (with_reducible (first | apply z1 | apply z2 | apply z3 | apply z4) <;> intro hq <;> (try simp only [zH] at hq) <;> (try (exfalso; omega)))))
theorem wojb (l : List Int) (hl : l.length ≤ 16000000) (v : Int) : lim Try.prog cfg (.call 165 [FL l.length (ints l), .int .i64 v]) (HP []) = some (.val (.bool (l.any fun a => decide (v = a))), HP []) := by
  refine wec hc wsi (Nat.le_of_ble_eq_true rfl) (Nat.le_of_ble_eq_true rfl) ?_
  unfold wmg
  have h := ev_Index l hl v
  rw [← wxac _ l 0]
  generalize fstV (fstF (fun a => decide (v = a)) l 0) = z at h ⊢
  (repeat' (first | (simp -implicitDefEqProofs (maxSteps := 2000000) (disch := first | with_reducible assumption | omega | (simp only [zS, zA, seval] <;> omega) | fail) only [zS, argl, insA, Go.Den.wm, wo, wu, looks, wcb, wbb, idOf, riA, seval, Go.Den.wh, kK, *]) | (with_reducible (first | apply z1 | apply z2 | apply z3 | apply z4) <;> intro hq <;> (try simp only [zH] at hq) <;> (try (exfalso; omega)))))
theorem ev_has1 (l : List Int) (hl : l.length ≤ 16000000) (r : Rx) : lim Try.prog cfg (.call 164 [.agg ⟨rxC r⟩, .pointer (some ⟨0, 0, none⟩)]) (HP [X [FL l.length (ints l)] 39 0 true]) = some (.val (.bool (l.any fun a => decide (r.kind = a))), HP [X [FL l.length (ints l)] 39 0 true]) := by
  refine wec hc wsw (Nat.le_of_ble_eq_true rfl) (Nat.le_of_ble_eq_true rfl) ?_
  unfold wmv
  have h := wojb l hl r.kind
  (repeat' (first | (simp -implicitDefEqProofs (maxSteps := 2000000) (disch := first | with_reducible assumption | omega | (simp only [zS, zA, seval, zD] <;> omega) | fail) only [zS, argl, insA, Go.Den.wm, wo, wu, looks, wcb, wbb, idOf, riA, seval, Go.Den.wh, kK, *, zT]) | (with_reducible (first | apply z1 | apply z2 | apply z3 | apply z4) <;> intro hq <;> (try simp only [zH] at hq) <;> (try (exfalso; omega)))))
end
end Go.Proofs.Ytgpabbbibmnnlaa
namespace Go.Proofs.Ytgpabbbibmnnlaa
set_option linter.unusedVariables false
set_option linter.unusedSimpArgs false
open Go.Den
noncomputable section
def wmh (l : List Int) (r : Rx) : Bool := l.any fun a => decide (r.kind = a)
abbrev hasFn : Value := .func (.func 164) ⟨[]⟩ ⟨[.pointer (some ⟨0, 0, none⟩)]⟩
abbrev hasB (l : List Int) : List ABlk := [X [FL l.length (ints l)] 39 0 true]
theorem hb_has1 : wmm Try.prog 164 = true := by kernel_rfl
theorem wbbb {args : List Value} : dynA Try.prog hasFn args = .call 164 (args ++ [.pointer (some ⟨0, 0, none⟩)]) := by
  unfold dynA
  simp only [hb_has1, cond_true, List.nil_append]
theorem wpjb : cfg.know 164 = none := by kernel_rfl
def fstW (ks : List Int) (n : Nat) : Option Nat → Option (Out × AH)
  | none => some (.code (.exit 0) (SE (EJ n G0) [(4, JK)]), HP (hasB ks))
  | some j => some (.code .ret (SE (EJ n G0) [(4, .int .i64 j)]), HP (hasB ks))
theorem wyac (ks : List Int) (hks : ks.length ≤ 16000000) (l : List Rx) (hl : l.length ≤ 16000000) : ∀ (k i : Nat), i + k = l.length →
    lim Try.prog cfg (.loop 172 1 (wqc 0) (SE (EJ 19 G0) [(8, .int .i64 i), (7, .int .i64 l.length), (1, hasFn), (0, FL l.length (rxsC l))])) (HP (hasB ks)) = fstW ks 19 (fstF (wmh ks) (l.drop i) i) := by
  intro k
  induction k with
  | zero =>
    intro i hi
    rw [List.drop_of_length_le (by omega), fstF, fstW]
    refine wab wfc ?_
    unfold wbc
    (repeat' (first | (simp -implicitDefEqProofs (maxSteps := 2000000) (disch := first | with_reducible assumption | omega | (simp only [zS, zA, seval, wdb, wjb, zD] <;> omega) | fail) only [zS, argl, insA, Go.Den.wm, wo, wu, looks, wcb, wbb, idOf, riA, seval, Go.Den.wh, kK, wsb, wdb, wjb, ej19, *, zT]) | (with_reducible (first | apply z1 | apply z2 | apply z3 | apply z4) <;> intro hq <;> (try simp only [zH] at hq) <;> (try (exfalso; omega)))))
  | succ k ih =>
    intro i hi
    rw [wsr l (by omega), fstF]
    have h := ih (i + 1) (by omega)
    clear ih
    have h1 := ev_has1 ks hks (l.getD i Rx.zero)
    by_cases hv : wmh ks (l.getD i Rx.zero) = true
    · rw [if_pos hv, fstW]
      unfold wmh at hv
      rw [hv] at h1
      clear h hv
      refine wab wfc ?_
      unfold wbc
      (repeat' (first | (simp -implicitDefEqProofs (maxSteps := 2000000) (disch := first | with_reducible assumption | omega | (simp only [zS, zA, seval, zD] <;> omega) | fail) only [zS, argl, insA, Go.Den.wm, wo, wu, looks, wcb, wbb, idOf, riA, seval, Go.Den.wh, kK, wsb, wbbb, wpjb, *, zT]) | (with_reducible (first | apply z1 | apply z2 | apply z3 | apply z4) <;> intro hq <;> (try simp only [zH] at hq) <;> (try (exfalso; omega)))))
    · rw [if_neg hv]
      have hv2 : (ks.any fun a => decide ((l.getD i Rx.zero).kind = a)) = false := by show wmh ks _ = false; exact Bool.eq_false_iff.2 hv
      rw [hv2] at h1
      generalize fstF (wmh ks) (l.drop (i + 1)) (i + 1) = o at h ⊢
      clear hv hv2
      cases o with
      | none =>
        rw [fstW] at h ⊢
        refine wab wfc ?_
        unfold wbc
        (repeat' (first | (simp -implicitDefEqProofs (maxSteps := 2000000) (disch := first | with_reducible assumption | omega | (simp only [zS, zA, seval, wdb, wjb, zD] <;> omega) | fail) only [zS, argl, insA, Go.Den.wm, wo, wu, looks, wcb, wbb, idOf, riA, seval, Go.Den.wh, kK, wsb, wbbb, wpjb, wdb, wjb, ej19, *, zT]) | (with_reducible (first | apply z1 | apply z2 | apply z3 | apply z4) <;> intro hq <;> (try simp only [zH] at hq) <;> (try (exfalso; omega)))))
        exact h
      | some j =>
        rw [fstW] at h ⊢
        refine wab wfc ?_
        unfold wbc
        (repeat' (first | (simp -implicitDefEqProofs (maxSteps := 2000000) (disch := first | with_reducible assumption | omega | (simp only [zS, zA, seval, wdb, wjb, zD] <;> omega) | fail) only [zS, argl, insA, Go.Den.wm, wo, wu, looks, wcb, wbb, idOf, riA, seval, Go.Den.wh, kK, wsb, wbbb, wpjb, wdb, wjb, ej19, *, zT]) | (with_reducible (first | apply z1 | apply z2 | apply z3 | apply z4) <;> intro hq <;> (try simp only [zH] at hq) <;> (try (exfalso; omega)))))
        exact h
def wzac (r : Rx) : Bool := !((decide (r.kind ≠ 1) && decide (r.set ≠ 0#256)) || (decide (r.kind ≠ 4) && (decide (r.mn ≠ 0) || decide (r.mx ≠ 0)))) && (decide (r.kind = 5) || (decide (r.kind = 6) || decide (r.n = 0)))
theorem wtlb : [Value.int .u64 0, .int .u64 0, .int .u64 0, .int .u64 0] = setC 0#256 := rfl
theorem ev_bare (r : Rx) : lim Try.prog cfg (.call 114 [.agg ⟨rxC r⟩]) (HP []) = some (.val (.bool (wzac r)), HP []) := by
  refine wec hc wpab (Nat.le_of_ble_eq_true rfl) (Nat.le_of_ble_eq_true rfl) ?_
  unfold wcy wzac
  have hz : ∀ a b, eqcV true [.int .u64, .int .u64, .int .u64, .int .u64] (.agg ⟨setC a⟩) (.agg ⟨setC b⟩) = val (.bool (decide (a ≠ b))) := wgzb
  (repeat' (first | (simp -implicitDefEqProofs (maxSteps := 2000000) (disch := first | with_reducible assumption | omega | (simp only [zS, zA, seval, zD] <;> omega) | fail) only [zS, argl, insA, Go.Den.wm, wo, wu, looks, wcb, wbb, idOf, riA, seval, Go.Den.wh, kK, wtlb, wyb, wic, *, zT]) | (with_reducible (first | apply z1 | apply z2 | apply z3 | apply z4) <;> intro hq <;> (try simp only [zH] at hq) <;> (try (exfalso; omega)))))
def repF (r : Rx) : Bool := decide (0 ≤ r.mn) && (decide (r.mn ≤ 20) && (decide (r.mx = -1) || (decide (max r.mn 1 ≤ r.mx) && decide (r.mx ≤ 20))))
theorem ev_rep (r : Rx) : lim Try.prog cfg (.call 145 [.agg ⟨rxC r⟩]) (HP []) = some (.val (.bool (repF r)), HP []) := by
  refine wec hc wneb (Nat.le_of_ble_eq_true rfl) (Nat.le_of_ble_eq_true rfl) ?_
  unfold wmeb repF
  (repeat' (first | (simp -implicitDefEqProofs (maxSteps := 2000000) (disch := first | with_reducible assumption | omega | (simp only [zS, zA, seval, zD] <;> omega) | fail) only [zS, argl, insA, Go.Den.wm, wo, wu, looks, wcb, wbb, idOf, riA, seval, Go.Den.wh, kK, wyb, wic, *, zT]) | (with_reducible (first | apply z1 | apply z2 | apply z3 | apply z4) <;> intro hq <;> (try simp only [zH] at hq) <;> (try (exfalso; omega)))))
end
end Go.Proofs.Ytgpabbbibmnnlaa
namespace Go.Proofs.Ytgpabbbibmnnlaa
set_option linter.unusedVariables false
set_option linter.unusedSimpArgs false
open Go.Den
noncomputable section
theorem wxeb (ks : List Int) (hks : ks.length ≤ 16000000) (l : List Rx) (hl : l.length ≤ 16000000) : lim Try.prog cfg (.call 172 [FL l.length (rxsC l), hasFn]) (HP (hasB ks)) = some (.val (.int .i64 (fstV (fstF (wmh ks) l 0))), HP (hasB ks)) := by
  refine wec hc wvg (Nat.le_of_ble_eq_true rfl) (Nat.le_of_ble_eq_true rfl) ?_
  unfold wte
  have h := wyac ks hks l hl l.length 0 (by omega)
  rw [List.drop_zero, show ((0 : Nat) : Int) = 0 from rfl] at h
  generalize fstF (wmh ks) l 0 = o at h ⊢
  cases o with
  | none =>
    rw [fstW] at h
    (repeat' (first | (simp -implicitDefEqProofs (maxSteps := 2000000) (disch := first | with_reducible assumption | omega | (simp only [zS, zA, seval, wdb, wjb, zD] <;> omega) | fail) only [zS, argl, insA, Go.Den.wm, wo, wu, looks, wcb, wbb, idOf, riA, seval, Go.Den.wh, kK, wsb, fstV, wdb, wjb, ej19, *, zT]) | (with_reducible (first | apply z1 | apply z2 | apply z3 | apply z4) <;> intro hq <;> (try simp only [zH] at hq) <;> (try (exfalso; omega)))))
  | some j =>
    rw [fstW] at h
    (repeat' (first | (simp -implicitDefEqProofs (maxSteps := 2000000) (disch := first | with_reducible assumption | omega | (simp only [zS, zA, seval, wdb, wjb, zD] <;> omega) | fail) only [zS, argl, insA, Go.Den.wm, wo, wu, looks, wcb, wbb, idOf, riA, seval, Go.Den.wh, kK, wsb, fstV, wdb, wjb, ej19, *, zT]) | (with_reducible (first | apply z1 | apply z2 | apply z3 | apply z4) <;> intro hq <;> (try simp only [zH] at hq) <;> (try (exfalso; omega)))))
theorem wtv (ks : List Int) (hks : ks.length ≤ 16000000) (l : List Rx) (hl : l.length ≤ 16000000) : lim Try.prog cfg (.call 163 [FL l.length (rxsC l), hasFn]) (HP (hasB ks)) = some (.val (.bool (l.any (wmh ks))), HP (hasB ks)) := by
  refine wec hc wcg (Nat.le_of_ble_eq_true rfl) (Nat.le_of_ble_eq_true rfl) ?_
  unfold wyd
  have h := wxeb ks hks l hl
  rw [← wxac _ l 0]
  generalize fstV (fstF (wmh ks) l 0) = z at h ⊢
  (repeat' (first | (simp -implicitDefEqProofs (maxSteps := 2000000) (disch := first | with_reducible assumption | omega | (simp only [zS, zA, seval, zD] <;> omega) | fail) only [zS, argl, insA, Go.Den.wm, wo, wu, looks, wcb, wbb, idOf, riA, seval, Go.Den.wh, kK, *, zT]) | (with_reducible (first | apply z1 | apply z2 | apply z3 | apply z4) <;> intro hq <;> (try simp only [zH] at hq) <;> (try (exfalso; omega)))))
theorem wqjb (ks : List Int) (hks : ks.length ≤ 16000000) (l : List Rx) (hl : l.length ≤ 16000000) : lim Try.prog cfg (.call 144 [FL l.length (rxsC l), FL ks.length (ints ks)]) (HP []) = some (.val (.bool (l.any (wmh ks))), HP []) := by
  refine wec hc wleb (Nat.le_of_ble_eq_true rfl) (Nat.le_of_ble_eq_true rfl) ?_
  unfold wkeb
  have h := wtv ks hks l hl
  (repeat' (first | (simp -implicitDefEqProofs (maxSteps := 2000000) (disch := first | with_reducible assumption | omega | (simp only [zS, zA, seval, zD] <;> omega) | fail) only [zS, argl, insA, Go.Den.wm, wo, wu, looks, wcb, wbb, idOf, riA, seval, Go.Den.wh, kK, *, zT]) | (with_reducible (first | apply z1 | apply z2 | apply z3 | apply z4) <;> intro hq <;> (try simp only [zH] at hq) <;> (try (exfalso; omega)))))
end
end Go.Proofs.Ytgpabbbibmnnlaa
namespace Go.Den
set_option linter.unusedVariables false
set_option linter.unusedSimpArgs false
noncomputable section
mutual
def wyc : Rx → Nat
  | .mk _ _ _ _ _ kids => 1 + wtc kids
def wtc : List Rx → Nat
  | [] => 0
  | r :: l => wyc r + wtc l
end
theorem wabc (r : Rx) : 1 ≤ wyc r := by cases r; rw [wyc]; omega
theorem wuv : ∀ (l : List Rx), l.length ≤ wtc l := by
  intro l
  induction l with
  | nil => rw [wtc]; exact Nat.le_refl _
  | cons r l ih => rw [wtc, List.length_cons]; have := wabc r; omega
theorem wxqb (l : List Rx) (i : Nat) : wtc (l.drop i) ≤ wtc l := by
  induction l generalizing i with
  | nil => rw [List.drop_nil]; exact Nat.le_refl _
  | cons a l ih =>
    cases i with
    | zero => rw [List.drop_zero]; exact Nat.le_refl _
    | succ i => rw [List.drop_succ_cons, wtc]; have := ih i; omega
end
end Go.Den
namespace Go.Proofs.Ytgpabbbibmnnlaa
open Go.Den
noncomputable section
def wtr (r : Rx) : Bool :=
  if r.kind = 1 then decide ((r.kids.length : Int) = 0) && decide (r.set ≠ 0#256)
  else if r.kind = 2 then decide ((r.kids.length : Int) ≠ 1) && !(r.kids.any (wmh [2, 3]))
  else if r.kind = 3 then decide ((2 : Int) ≤ r.kids.length) && !(r.kids.any (wmh [3]))
  else if r.kind = 4 then decide ((r.kids.length : Int) = 1) && (r.kids.any (wmh [1, 5, 6]) && repF r)
  else if r.kind = 5 then decide ((r.kids.length : Int) = 1)
  else if r.kind = 6 then decide ((r.kids.length : Int) = 0)
  else if r.kind = 7 then decide ((r.kids.length : Int) = 0)
  else if r.kind = 8 then decide ((r.kids.length : Int) = 0)
  else false
theorem ev_has2 (a b : Int) (l : List Rx) (hl : l.length ≤ 16000000) : lim Try.prog cfg (.call 144 [FL l.length (rxsC l), FL 2 [.int .i64 a, .int .i64 b]]) (HP []) = some (.val (.bool (l.any (wmh [a, b]))), HP []) := wqjb [a, b] (by simp) l hl
theorem wbbc (a : Int) (l : List Rx) (hl : l.length ≤ 16000000) : lim Try.prog cfg (.call 144 [FL l.length (rxsC l), FL 1 [.int .i64 a]]) (HP []) = some (.val (.bool (l.any (wmh [a]))), HP []) := wqjb [a] (by simp) l hl
theorem ev_has3 (a b c : Int) (l : List Rx) (hl : l.length ≤ 16000000) : lim Try.prog cfg (.call 144 [FL l.length (rxsC l), FL 3 [.int .i64 a, .int .i64 b, .int .i64 c]]) (HP []) = some (.val (.bool (l.any (wmh [a, b, c]))), HP []) := wqjb [a, b, c] (by simp) l hl
theorem ev_kids (r : Rx) (hl : r.kids.length ≤ 16000000) : lim Try.prog cfg (.call 115 [.agg ⟨rxC r⟩]) (HP []) = some (.val (.bool (wtr r)), HP []) := by
  refine wec hc wqab (Nat.le_of_ble_eq_true rfl) (Nat.le_of_ble_eq_true rfl) ?_
  unfold wdy wtr
  have hz : ∀ a b, eqcV true [.int .u64, .int .u64, .int .u64, .int .u64] (.agg ⟨setC a⟩) (.agg ⟨setC b⟩) = val (.bool (decide (a ≠ b))) := wgzb
  have h2 := ev_has2 2 3 r.kids hl
  have h3 := wbbc 3 r.kids hl
  have h4 := ev_has3 1 5 6 r.kids hl
  have h5 := ev_rep r
  generalize r.kids.any (wmh [2, 3]) = b2 at h2 ⊢
  generalize r.kids.any (wmh [3]) = b3 at h3 ⊢
  generalize r.kids.any (wmh [1, 5, 6]) = b4 at h4 ⊢
  generalize repF r = b5 at h5 ⊢
  (repeat' (first | (simp -implicitDefEqProofs (maxSteps := 2000000) (disch := first | with_reducible assumption | omega | (simp only [zS, zA, seval, zD] <;> omega) | fail) only [zS, argl, insA, Go.Den.wm, wo, wu, looks, wcb, wbb, idOf, riA, seval, Go.Den.wh, kK, wtlb, wyb, wic, *, zT]) | (with_reducible (first | apply z1 | apply z2 | apply z3 | apply z4) <;> intro hq <;> (try simp only [zH] at hq) <;> (try (exfalso; omega)))))
  all_goals simp_all
theorem wyqb (l : List Rx) (hl : l.length ≤ 16000000) (hn : wtc l ≤ 1000000) (hk : ∀ r ∈ l, lim Try.prog cfg (.call 74 [.agg ⟨rxC r⟩]) (HP []) = some (.val (.int .i64 (wyc r)), HP [])) :
    ∀ (k i : Nat) (a : Int), i + k = l.length → 0 ≤ a → a + wtc (l.drop i) ≤ 2000000 →
    lim Try.prog cfg (.loop 74 0 (wrl 0) (SE (EJ 19 G0) [(9, .int .i64 i), (8, .int .i64 l.length), (7, FL l.length (rxsC l)), (3, .int .i64 a)])) (HP []) = some (.code (.exit 0) (SE (EJ 19 G0) [(3, .int .i64 (a + wtc (l.drop i)))]), HP []) := by
  intro k
  induction k with
  | zero =>
    intro i a hi h1 h2
    rw [List.drop_of_length_le (by omega), wtc]
    refine wab wdm ?_
    unfold wsl
    clear hk
    (repeat' (first | (simp -implicitDefEqProofs (maxSteps := 2000000) (disch := first | with_reducible assumption | omega | (simp only [zS, zA, seval, zD] <;> omega) | fail) only [zS, argl, insA, Go.Den.wm, wo, wu, looks, wcb, wbb, idOf, riA, seval, Go.Den.wh, kK, wvl, Int.natCast_zero, Int.add_zero, *, zT]) | (with_reducible (first | apply z1 | apply z2 | apply z3 | apply z4) <;> intro hq <;> (try simp only [zH] at hq) <;> (try (exfalso; omega)))))
  | succ k ih =>
    intro i a hi h1 h2
    rw [wsr l (by omega), wtc]
    have hr := hk _ (by rw [List.getD_eq_getElem?_getD, List.getElem?_eq_getElem (show i < l.length by omega)]; exact List.getElem_mem _ : l.getD i Rx.zero ∈ l)
    have hb : wyc (l.getD i Rx.zero) + wtc (l.drop (i + 1)) ≤ wtc l := by
      have := wxqb l i
      rw [wsr l (by omega), wtc] at this
      exact this
    rw [wsr l (by omega), wtc] at h2
    have h := ih (i + 1) (a + wyc (l.getD i Rx.zero)) (by omega) (by omega) (by omega)
    rw [show a + ((wyc (l.getD i Rx.zero) + wtc (l.drop (i + 1)) : Nat) : Int) = a + (wyc (l.getD i Rx.zero) : Int) + (wtc (l.drop (i + 1)) : Int) by omega]
    refine wab wdm ?_
    unfold wsl
    clear hk ih
    (repeat' (first | (simp -implicitDefEqProofs (maxSteps := 2000000) (disch := first | with_reducible assumption | omega | (simp only [zS, zA, seval, zD] <;> omega) | fail) only [zS, argl, insA, Go.Den.wm, wo, wu, looks, wcb, wbb, idOf, riA, seval, Go.Den.wh, kK, wvl, *, zT]) | (with_reducible (first | apply z1 | apply z2 | apply z3 | apply z4) <;> intro hq <;> (try simp only [zH] at hq) <;> (try (exfalso; omega)))))
    exact h
theorem ev_Nodes : ∀ r : Rx, wyc r ≤ 1000000 → lim Try.prog cfg (.call 74 [.agg ⟨rxC r⟩]) (HP []) = some (.val (.int .i64 (wyc r)), HP []) := by
  refine Rx.rec (motive_1 := fun r => wyc r ≤ 1000000 → lim Try.prog cfg (.call 74 [.agg ⟨rxC r⟩]) (HP []) = some (.val (.int .i64 (wyc r)), HP [])) (motive_2 := fun l => wtc l ≤ 1000000 → ∀ r ∈ l, lim Try.prog cfg (.call 74 [.agg ⟨rxC r⟩]) (HP []) = some (.val (.int .i64 (wyc r)), HP [])) ?_ ?_ ?_
  · intro k mn mx n s l ih hn
    rw [wyc] at hn
    have hl := wuv l
    have h := wyqb l (by omega) (by omega) (ih (by omega)) l.length 0 1 (by omega) (by omega) (by rw [List.drop_zero]; omega)
    rw [List.drop_zero, show ((0 : Nat) : Int) = 0 from rfl] at h
    rw [wyc, show ((1 + wtc l : Nat) : Int) = 1 + (wtc l : Int) by omega]
    refine wec hc wqw (Nat.le_of_ble_eq_true rfl) (Nat.le_of_ble_eq_true rfl) ?_
    unfold wkv
    clear ih
    (repeat' (first | (simp -implicitDefEqProofs (maxSteps := 2000000) (disch := first | with_reducible assumption | omega | (simp only [zS, zA, seval, zD] <;> omega) | fail) only [zS, argl, insA, Go.Den.wm, wo, wu, looks, wcb, wbb, idOf, riA, seval, Go.Den.wh, kK, wvl, *, zT]) | (with_reducible (first | apply z1 | apply z2 | apply z3 | apply z4) <;> intro hq <;> (try simp only [zH] at hq) <;> (try (exfalso; omega)))))
  · intro _ r h; cases h
  · intro r l h1 h2 hn x hx
    rw [wtc] at hn
    rcases List.mem_cons.1 hx with rfl | hx
    · exact h1 (by omega)
    · exact h2 (by omega) x hx
theorem wfy (r : Rx) (g : Int) : lim Try.prog cfg (.call 96 [.pointer (some ⟨0, 0, none⟩), .agg ⟨rxC r⟩]) (HP [X [.bool true, .int .i64 g] 165 0 true]) = some (.val (.bool true), HP [X [.bool true, .int .i64 g] 165 0 true]) := by
  refine wec hc wtl (Nat.le_of_ble_eq_true rfl) (Nat.le_of_ble_eq_true rfl) ?_
  unfold wyi
  (repeat' (first | (simp -implicitDefEqProofs (maxSteps := 2000000) (disch := first | with_reducible assumption | omega | (simp only [zS, zA, seval, zD] <;> omega) | fail) only [zS, argl, insA, Go.Den.wm, wo, wu, looks, wcb, wbb, idOf, riA, seval, Go.Den.wh, kK, wyb, wic, *, zT]) | (with_reducible (first | apply z1 | apply z2 | apply z3 | apply z4) <;> intro hq <;> (try simp only [zH] at hq) <;> (try (exfalso; omega)))))
end
end Go.Proofs.Ytgpabbbibmnnlaa
namespace Go.Proofs.Ytgpabbbibmnnlaa
set_option linter.unusedVariables false
set_option linter.unusedSimpArgs false
open Go.Den
noncomputable section
mutual
def wpi : Rx → Int → Int → Bool × Int
  | .mk k mn mx n s kids, d, g =>
    if wzac (.mk k mn mx n s kids) = true then
      if wtr (.mk k mn mx n s kids) = true then
        if k = 5 then (if n = g + 1 then (if d + 1 ≤ 6 then wng kids (d + 1) (g + 1) else (false, g + 1)) else (false, g + 1))
        else if k = 6 then (decide (1 ≤ n) && decide (n ≤ g), g)
        else wng kids d g
      else (false, g)
    else (false, g)
def wng : List Rx → Int → Int → Bool × Int
  | [], _, g => (true, g)
  | r :: l, d, g => if (wpi r d g).1 = true then wng l d (wpi r d g).2 else (false, (wpi r d g).2)
end
theorem wcbb : ∀ (r : Rx) (d g : Int), g ≤ (wpi r d g).2 ∧ (wpi r d g).2 ≤ g + wyc r := by
  refine Rx.rec (motive_1 := fun r => ∀ (d g : Int), g ≤ (wpi r d g).2 ∧ (wpi r d g).2 ≤ g + wyc r) (motive_2 := fun l => ∀ (d g : Int), g ≤ (wng l d g).2 ∧ (wng l d g).2 ≤ g + wtc l) ?_ ?_ ?_
  · intro k mn mx n s l ih d g
    rw [wpi, wyc]
    have h1 := ih (d + 1) (g + 1)
    have h2 := ih d g
    repeat' split
    all_goals first | (constructor <;> simp <;> omega) | omega
  · intro d g; rw [wng, wtc]; exact ⟨Int.le_refl _, by simp⟩
  · intro r l h1 h2 d g
    rw [wng, wtc]
    have h3 := h1 d g
    have h4 := h2 d (wpi r d g).2
    split
    · omega
    · simp; omega
abbrev wkB (g : Int) : List ABlk := [X [.bool true, .int .i64 g] 165 0 true]
def wdbb (w : Bool × Int) : Option (Out × AH) := if w.1 = true then some (.code (.exit 1) (SE (EJ 89 G0) [(6, JK)]), HP (wkB w.2)) else some (.code .ret (SE (EJ 89 G0) [(6, .bool false)]), HP (wkB w.2))
theorem ej89 : (EJ 89 G0).get 6 = JK := rfl
def wgy (r : Rx) : Prop := ∀ d g : Int, 0 ≤ d → d ≤ 1000 → 0 ≤ g → g + wyc r ≤ 2000000 → lim Try.prog cfg (.call 97 [.pointer (some ⟨0, 0, none⟩), .agg ⟨rxC r⟩, .int .i64 d]) (HP (wkB g)) = some (.val (.bool (wpi r d g).1), HP (wkB (wpi r d g).2))
theorem wyeb (l : List Rx) (hl : l.length ≤ 16000000) (hk : ∀ r ∈ l, wgy r) (d : Int) (hd : 0 ≤ d) (hd2 : d ≤ 1000) :
    ∀ (k i : Nat) (g : Int), i + k = l.length → 0 ≤ g → g + wtc (l.drop i) ≤ 2000000 →
    lim Try.prog cfg (.loop 97 1 (wig 0) (SE (EJ 89 G0) [(79, .int .i64 i), (78, .int .i64 l.length), (77, FL l.length (rxsC l)), (2, .int .i64 d), (0, .pointer (some ⟨0, 0, none⟩))])) (HP (wkB g)) = wdbb (wng (l.drop i) d g) := by
  intro k
  induction k with
  | zero =>
    intro i g hi h1 h2
    rw [List.drop_of_length_le (by omega), wng, wdbb, if_pos rfl]
    refine wab wie ?_
    unfold wge
    clear hk
    (repeat' (first | (simp -implicitDefEqProofs (maxSteps := 2000000) (disch := first | with_reducible assumption | omega | (simp only [zS, zA, seval, wdb, wjb, zD] <;> omega) | fail) only [zS, argl, insA, Go.Den.wm, wo, wu, looks, wcb, wbb, idOf, riA, seval, Go.Den.wh, kK, wrb, wdb, wjb, ej89, *, zT]) | (with_reducible (first | apply z1 | apply z2 | apply z3 | apply z4) <;> intro hq <;> (try simp only [zH] at hq) <;> (try (exfalso; omega)))))
  | succ k ih =>
    intro i g hi h1 h2
    rw [wsr l (by omega), wtc] at h2
    rw [wsr l (by omega), wng]
    have hr := hk _ (by rw [List.getD_eq_getElem?_getD, List.getElem?_eq_getElem (show i < l.length by omega)]; exact List.getElem_mem _ : l.getD i Rx.zero ∈ l) d g hd hd2 h1 (by omega)
    have hw := wcbb (l.getD i Rx.zero) d g
    have h := ih (i + 1) (wpi (l.getD i Rx.zero) d g).2 (by omega) (by omega) (by omega)
    generalize wpi (l.getD i Rx.zero) d g = w at hr hw h ⊢
    obtain ⟨b, g2⟩ := w
    clear hk ih
    cases b with
    | false =>
      rw [if_neg (by simp), wdbb, if_neg (by simp)]
      clear h
      refine wab wie ?_
      unfold wge
      (repeat' (first | (simp -implicitDefEqProofs (maxSteps := 2000000) (disch := first | with_reducible assumption | omega | (simp only [zS, zA, seval, zD] <;> omega) | fail) only [zS, argl, insA, Go.Den.wm, wo, wu, looks, wcb, wbb, idOf, riA, seval, Go.Den.wh, kK, wrb, *, zT]) | (with_reducible (first | apply z1 | apply z2 | apply z3 | apply z4) <;> intro hq <;> (try simp only [zH] at hq) <;> (try (exfalso; omega)))))
    | true =>
      rw [if_pos rfl]
      generalize wng (l.drop (i + 1)) d (true, g2).2 = w2 at h ⊢
      obtain ⟨b2, g3⟩ := w2
      cases b2 with
      | true =>
        rw [wdbb, if_pos rfl] at h ⊢
        refine wab wie ?_
        unfold wge
        (repeat' (first | (simp -implicitDefEqProofs (maxSteps := 2000000) (disch := first | with_reducible assumption | omega | (simp only [zS, zA, seval, wdb, wjb, zD] <;> omega) | fail) only [zS, argl, insA, Go.Den.wm, wo, wu, looks, wcb, wbb, idOf, riA, seval, Go.Den.wh, kK, wrb, wdb, wjb, ej89, *, zT]) | (with_reducible (first | apply z1 | apply z2 | apply z3 | apply z4) <;> intro hq <;> (try simp only [zH] at hq) <;> (try (exfalso; omega)))))
        exact h
      | false =>
        rw [wdbb, if_neg (by simp)] at h ⊢
        refine wab wie ?_
        unfold wge
        (repeat' (first | (simp -implicitDefEqProofs (maxSteps := 2000000) (disch := first | with_reducible assumption | omega | (simp only [zS, zA, seval, wdb, wjb, zD] <;> omega) | fail) only [zS, argl, insA, Go.Den.wm, wo, wu, looks, wcb, wbb, idOf, riA, seval, Go.Den.wh, kK, wrb, wdb, wjb, ej89, *, zT]) | (with_reducible (first | apply z1 | apply z2 | apply z3 | apply z4) <;> intro hq <;> (try simp only [zH] at hq) <;> (try (exfalso; omega)))))
        exact h
end
end Go.Proofs.Ytgpabbbibmnnlaa
namespace Go.Proofs.Ytgpabbbibmnnlaa
set_option linter.unusedVariables false
set_option linter.unusedSimpArgs false
open Go.Den
noncomputable section
set_option maxHeartbeats 4000000 in
theorem wcbc (k mn mx n : Int) (set : BitVec 256) (kids : List Rx) (hl : kids.length ≤ 16000000) (ih : ∀ r ∈ kids, wgy r) : wgy (.mk k mn mx n set kids) := by
  intro d g hd hd2 hg hgn
  rw [wyc] at hgn
  have hb := ev_bare (.mk k mn mx n set kids)
  have hk := ev_kids (.mk k mn mx n set kids) hl
  rw [wpi]
  refine wec hc wjo (Nat.le_of_ble_eq_true rfl) (Nat.le_of_ble_eq_true rfl) ?_
  unfold wrk
  cases hbv : wzac (.mk k mn mx n set kids) with
  | false =>
    rw [if_neg (by simp)]
    rw [hbv] at hb
    clear hk ih hbv
    (repeat' (first | (simp -implicitDefEqProofs (maxSteps := 2000000) (disch := first | with_reducible assumption | omega | (simp only [zS, zA, seval, zD] <;> omega) | fail) only [zS, argl, insA, Go.Den.wm, wo, wu, looks, wcb, wbb, idOf, riA, seval, Go.Den.wh, kK, wrb, wyb, wic, *, zT]) | (with_reducible (first | apply z1 | apply z2 | apply z3 | apply z4) <;> intro hq <;> (try simp only [zH] at hq) <;> (try (exfalso; omega))) | (with_reducible apply z5; (case hl => (repeat (first | exact .nil | with_reducible apply z6 | with_reducible apply z7))); (case h => kernel_rfl))))
  | true =>
  rw [if_pos rfl]
  rw [hbv] at hb
  clear hbv
  cases hkv : wtr (.mk k mn mx n set kids) with
  | false =>
    rw [if_neg (by simp)]
    rw [hkv] at hk
    clear ih hkv
    (repeat' (first | (simp -implicitDefEqProofs (maxSteps := 2000000) (disch := first | with_reducible assumption | omega | (simp only [zS, zA, seval, zD] <;> omega) | fail) only [zS, argl, insA, Go.Den.wm, wo, wu, looks, wcb, wbb, idOf, riA, seval, Go.Den.wh, kK, wrb, wyb, wic, *, zT]) | (with_reducible (first | apply z1 | apply z2 | apply z3 | apply z4) <;> intro hq <;> (try simp only [zH] at hq) <;> (try (exfalso; omega))) | (with_reducible apply z5; (case hl => (repeat (first | exact .nil | with_reducible apply z6 | with_reducible apply z7))); (case h => kernel_rfl))))
  | true =>
  rw [if_pos rfl]
  rw [hkv] at hk
  by_cases h5 : k = 5
  · subst h5
    rw [if_pos rfl]
    have hlen : kids.length = 1 := by
      have h3 : decide ((kids.length : Int) = 1) = true := hkv
      rw [decide_eq_true_eq] at h3
      omega
    have hs : slotsOf (rxsC kids) 0 9 = rxC (kids.getD 0 Rx.zero) := by
      have := wuq (l := kids) (i := 0) (by omega)
      rwa [Nat.zero_mul] at this
    have hcl : 9 ≤ (rxsC kids).length := by rw [wvab, hlen]; omega
    have hz : 0 < kids.length := by omega
    have ha := wfy (kids.getD 0 Rx.zero) (g + 1)
    clear hkv hlen
    by_cases hn : n = g + 1
    · rw [if_pos hn]
      by_cases hd6 : d + 1 ≤ 6
      · rw [if_pos hd6]
        have h := wyeb kids hl ih (d + 1) (by omega) (by omega) kids.length 0 (g + 1) (by omega) (by omega) (by rw [List.drop_zero]; omega)
        rw [List.drop_zero, show ((0 : Nat) : Int) = 0 from rfl] at h
        generalize wng kids (d + 1) (g + 1) = w at h ⊢
        obtain ⟨b, g2⟩ := w
        clear ih
        subst hn
        cases b with
        | true =>
          rw [wdbb, if_pos rfl] at h
          (repeat' (first | (simp -implicitDefEqProofs (maxSteps := 2000000) (disch := first | with_reducible assumption | omega | (simp only [zS, zA, seval, wdb, wjb, zD] <;> omega) | fail) only [zS, argl, insA, Go.Den.wm, wo, wu, looks, wcb, wbb, idOf, riA, seval, Go.Den.wh, kK, wrb, wyb, wic, wdb, wjb, ej89, *, zT]) | (with_reducible (first | apply z1 | apply z2 | apply z3 | apply z4) <;> intro hq <;> (try simp only [zH] at hq) <;> (try (exfalso; omega))) | (with_reducible apply z5; (case hl => (repeat (first | exact .nil | with_reducible apply z6 | with_reducible apply z7))); (case h => kernel_rfl))))
        | false =>
          rw [wdbb, if_neg (by simp)] at h
          (repeat' (first | (simp -implicitDefEqProofs (maxSteps := 2000000) (disch := first | with_reducible assumption | omega | (simp only [zS, zA, seval, wdb, wjb, zD] <;> omega) | fail) only [zS, argl, insA, Go.Den.wm, wo, wu, looks, wcb, wbb, idOf, riA, seval, Go.Den.wh, kK, wrb, wyb, wic, wdb, wjb, ej89, *, zT]) | (with_reducible (first | apply z1 | apply z2 | apply z3 | apply z4) <;> intro hq <;> (try simp only [zH] at hq) <;> (try (exfalso; omega))) | (with_reducible apply z5; (case hl => (repeat (first | exact .nil | with_reducible apply z6 | with_reducible apply z7))); (case h => kernel_rfl))))
      · rw [if_neg hd6]
        clear ih
        subst hn
        (repeat' (first | (simp -implicitDefEqProofs (maxSteps := 2000000) (disch := first | with_reducible assumption | omega | (simp only [zS, zA, seval, zD] <;> omega) | fail) only [zS, argl, insA, Go.Den.wm, wo, wu, looks, wcb, wbb, idOf, riA, seval, Go.Den.wh, kK, wrb, wyb, wic, *, zT]) | (with_reducible (first | apply z1 | apply z2 | apply z3 | apply z4) <;> intro hq <;> (try simp only [zH] at hq) <;> (try (exfalso; omega))) | (with_reducible apply z5; (case hl => (repeat (first | exact .nil | with_reducible apply z6 | with_reducible apply z7))); (case h => kernel_rfl))))
    · rw [if_neg hn]
      clear ih
      (repeat' (first | (simp -implicitDefEqProofs (maxSteps := 2000000) (disch := first | with_reducible assumption | omega | (simp only [zS, zA, seval, zD] <;> omega) | fail) only [zS, argl, insA, Go.Den.wm, wo, wu, looks, wcb, wbb, idOf, riA, seval, Go.Den.wh, kK, wrb, wyb, wic, *, zT]) | (with_reducible (first | apply z1 | apply z2 | apply z3 | apply z4) <;> intro hq <;> (try simp only [zH] at hq) <;> (try (exfalso; omega))) | (with_reducible apply z5; (case hl => (repeat (first | exact .nil | with_reducible apply z6 | with_reducible apply z7))); (case h => kernel_rfl))))
  rw [if_neg h5]
  clear hkv
  by_cases h6 : k = 6
  · subst h6
    rw [if_pos rfl]
    clear ih
    (repeat' (first | (simp -implicitDefEqProofs (maxSteps := 2000000) (disch := first | with_reducible assumption | omega | (simp only [zS, zA, seval, zD] <;> omega) | fail) only [zS, argl, insA, Go.Den.wm, wo, wu, looks, wcb, wbb, idOf, riA, seval, Go.Den.wh, kK, wrb, wyb, wic, *, zT]) | (with_reducible (first | apply z1 | apply z2 | apply z3 | apply z4) <;> intro hq <;> (try simp only [zH] at hq) <;> (try (exfalso; omega))) | (with_reducible apply z5; (case hl => (repeat (first | exact .nil | with_reducible apply z6 | with_reducible apply z7))); (case h => kernel_rfl))))
  rw [if_neg h6]
  have h := wyeb kids hl ih d (by omega) (by omega) kids.length 0 g (by omega) (by omega) (by rw [List.drop_zero]; omega)
  rw [List.drop_zero, show ((0 : Nat) : Int) = 0 from rfl] at h
  generalize wng kids d g = w at h ⊢
  obtain ⟨b, g2⟩ := w
  clear ih
  cases b with
  | true =>
    rw [wdbb, if_pos rfl] at h
    (repeat' (first | (simp -implicitDefEqProofs (maxSteps := 2000000) (disch := first | with_reducible assumption | omega | (simp only [zS, zA, seval, wdb, wjb, zD] <;> omega) | fail) only [zS, argl, insA, Go.Den.wm, wo, wu, looks, wcb, wbb, idOf, riA, seval, Go.Den.wh, kK, wrb, wyb, wic, wdb, wjb, ej89, *, zT]) | (with_reducible (first | apply z1 | apply z2 | apply z3 | apply z4) <;> intro hq <;> (try simp only [zH] at hq) <;> (try (exfalso; omega))) | (with_reducible apply z5; (case hl => (repeat (first | exact .nil | with_reducible apply z6 | with_reducible apply z7))); (case h => kernel_rfl))))
  | false =>
    rw [wdbb, if_neg (by simp)] at h
    (repeat' (first | (simp -implicitDefEqProofs (maxSteps := 2000000) (disch := first | with_reducible assumption | omega | (simp only [zS, zA, seval, wdb, wjb, zD] <;> omega) | fail) only [zS, argl, insA, Go.Den.wm, wo, wu, looks, wcb, wbb, idOf, riA, seval, Go.Den.wh, kK, wrb, wyb, wic, wdb, wjb, ej89, *, zT]) | (with_reducible (first | apply z1 | apply z2 | apply z3 | apply z4) <;> intro hq <;> (try simp only [zH] at hq) <;> (try (exfalso; omega))) | (with_reducible apply z5; (case hl => (repeat (first | exact .nil | with_reducible apply z6 | with_reducible apply z7))); (case h => kernel_rfl))))
theorem ev_walk : ∀ r : Rx, wyc r ≤ 1000000 → wgy r := by
  refine Rx.rec (motive_1 := fun r => wyc r ≤ 1000000 → wgy r) (motive_2 := fun l => wtc l ≤ 1000000 → ∀ r ∈ l, wgy r) ?_ ?_ ?_
  · intro k mn mx n s l ih hn
    rw [wyc] at hn
    have hl := wuv l
    exact wcbc k mn mx n s l (by omega) (ih (by omega))
  · intro _ r h; cases h
  · intro r l h1 h2 hn x hx
    rw [wtc] at hn
    rcases List.mem_cons.1 hx with rfl | hx
    · exact h1 (by omega)
    · exact h2 (by omega) x hx
def wvk (r : Rx) : Bool := decide (wyc r ≤ 40) && ((wpi r 0 0).1 && decide ((wpi r 0 0).2 ≤ 3))
theorem wulb (r : Rx) (hn : wyc r ≤ 1000000) : lim Try.prog cfg (.call 69 [.agg ⟨rxC r⟩, .bool true]) (HP []) = some (.val (.bool (wvk r)), HP []) := by
  have h1 := ev_Nodes r hn
  have h2 := wfy r 0
  have h3 := ev_walk r hn 0 0 (by omega) (by omega) (by omega) (by omega)
  unfold wvk
  generalize wpi r 0 0 = w at h3 ⊢
  obtain ⟨b, g⟩ := w
  refine wec hc wpw (Nat.le_of_ble_eq_true rfl) (Nat.le_of_ble_eq_true rfl) ?_
  unfold wjv
  by_cases hq : wyc r ≤ 40
  · have hq2 : (wyc r : Int) ≤ 40 := by omega
    rw [decide_eq_true hq]
    cases b with
    | false => (repeat' (first | (simp -implicitDefEqProofs (maxSteps := 2000000) (disch := first | with_reducible assumption | omega | (simp only [zS, zA, seval, zD] <;> omega) | fail) only [zS, argl, insA, Go.Den.wm, wo, wu, looks, wcb, wbb, idOf, riA, seval, Go.Den.wh, kK, wyb, wic, *, zT]) | (with_reducible (first | apply z1 | apply z2 | apply z3 | apply z4) <;> intro hq <;> (try simp only [zH] at hq) <;> (try (exfalso; omega))))); all_goals trace_state
    | true => (repeat' (first | (simp -implicitDefEqProofs (maxSteps := 2000000) (disch := first | with_reducible assumption | omega | (simp only [zS, zA, seval, zD] <;> omega) | fail) only [zS, argl, insA, Go.Den.wm, wo, wu, looks, wcb, wbb, idOf, riA, seval, Go.Den.wh, kK, wyb, wic, *, zT]) | (with_reducible (first | apply z1 | apply z2 | apply z3 | apply z4) <;> intro hq <;> (try simp only [zH] at hq) <;> (try (exfalso; omega))))); all_goals trace_state
  · have hq2 : ¬ (wyc r : Int) ≤ 40 := by omega
    rw [decide_eq_false hq]
    (repeat' (first | (simp -implicitDefEqProofs (maxSteps := 2000000) (disch := first | with_reducible assumption | omega | (simp only [zS, zA, seval, zD] <;> omega) | fail) only [zS, argl, insA, Go.Den.wm, wo, wu, looks, wcb, wbb, idOf, riA, seval, Go.Den.wh, kK, wyb, wic, *, zT]) | (with_reducible (first | apply z1 | apply z2 | apply z3 | apply z4) <;> intro hq <;> (try simp only [zH] at hq) <;> (try (exfalso; omega)))))
end
end Go.Proofs.Ytgpabbbibmnnlaa
namespace Go.Proofs.Ytgpabbbibmnnlaa
set_option linter.unusedVariables false
set_option linter.unusedSimpArgs false
open Go.Den
noncomputable section
theorem wdbc {k mn mx n : Int} {s : BitVec 256} {l : List Rx} (h : wtr (.mk k mn mx n s l) = true) :
    (k = 5 → l ≠ []) ∧ (k = 4 → l ≠ [] ∧ 0 ≤ mn ∧ mn ≤ 20 ∧ -1 ≤ mx ∧ mx ≤ 20) := by
  constructor
  · intro h5; subst h5
    have h3 : decide ((l.length : Int) = 1) = true := h
    rw [decide_eq_true_eq] at h3
    intro he; subst he; simp at h3
  · intro h4; subst h4
    have h3 : (decide ((l.length : Int) = 1) && (l.any (wmh [1, 5, 6]) && repF (.mk 4 mn mx n s l))) = true := h
    rw [Bool.and_eq_true, Bool.and_eq_true, decide_eq_true_eq] at h3
    have h5 : (decide (0 ≤ mn) && (decide (mn ≤ 20) && (decide (mx = -1) || (decide (max mn 1 ≤ mx) && decide (mx ≤ 20))))) = true := h3.2.2
    simp only [Bool.and_eq_true, Bool.or_eq_true, decide_eq_true_eq] at h5
    refine ⟨fun he => by subst he; simp at h3, h5.1, h5.2.1, ?_, ?_⟩ <;> omega
theorem walk_ok : ∀ (r : Rx) (d g : Int), 0 ≤ g → (wpi r d g).1 = true → (wpi r d g).2 ≤ 3 → okR r = true := by
  refine Rx.rec (motive_1 := fun r => ∀ (d g : Int), 0 ≤ g → (wpi r d g).1 = true → (wpi r d g).2 ≤ 3 → okR r = true) (motive_2 := fun l => ∀ (d g : Int), 0 ≤ g → (wng l d g).1 = true → (wng l d g).2 ≤ 3 → okRs l = true) ?_ ?_ ?_
  · intro k mn mx n s l ih d g hg h1 h2
    have hle : ∀ d g, g ≤ (wng l d g).2 := by
      clear ih h1 h2 hg
      induction l with
      | nil => intro d g; rw [wng]; exact Int.le_refl _
      | cons a l ih =>
        intro d g
        rw [wng]
        have := (wcbb a d g).1
        split
        · have := ih d (wpi a d g).2; omega
        · exact this
    rw [wpi] at h1 h2
    rw [okR, Bool.and_eq_true]
    by_cases hb : wzac (.mk k mn mx n s l) = true
    · rw [if_pos hb] at h1 h2
      by_cases hk : wtr (.mk k mn mx n s l) = true
      · rw [if_pos hk] at h1 h2
        have ⟨k5, k4⟩ := wdbc hk
        by_cases h5 : k = 5
        · rw [if_pos h5] at h1 h2
          rw [if_pos h5]
          by_cases hn : n = g + 1
          · rw [if_pos hn] at h1 h2
            by_cases hd : d + 1 ≤ 6
            · rw [if_pos hd] at h1 h2
              have := hle (d + 1) (g + 1)
              refine ⟨?_, ih _ _ (by omega) h1 h2⟩
              simp only [Bool.and_eq_true, decide_eq_true_eq]
              exact ⟨k5 h5, by omega, by omega⟩
            · rw [if_neg hd] at h1; cases h1
          · rw [if_neg hn] at h1; cases h1
        · rw [if_neg h5] at h1 h2 ⊢
          by_cases h6 : k = 6
          · rw [if_pos h6] at h1 h2
            rw [if_neg (by omega), if_pos h6]
            simp only [Bool.and_eq_true, decide_eq_true_eq] at h1 ⊢
            have hl0 : l = [] := by
              subst h6
              have h3 : decide ((l.length : Int) = 0) = true := hk
              rw [decide_eq_true_eq] at h3
              exact List.eq_nil_of_length_eq_zero (by omega)
            subst hl0
            exact ⟨⟨h1.1, by simp only at h2; omega⟩, by rw [okRs]⟩
          · rw [if_neg h6] at h1 h2 ⊢
            refine ⟨?_, ih _ _ hg h1 h2⟩
            by_cases h4 : k = 4
            · rw [if_pos h4]
              simp only [Bool.and_eq_true, decide_eq_true_eq]
              exact k4 h4
            · rw [if_neg h4]
      · rw [if_neg hk] at h1; cases h1
    · rw [if_neg hb] at h1; cases h1
  · intro _ _ _ _ _; rw [okRs]
  · intro r l h1 h2 d g hg h3 h4
    rw [wng] at h3 h4
    have hw := wcbb r d g
    by_cases hr : (wpi r d g).1 = true
    · rw [if_pos hr] at h3 h4
      have hle : ∀ (l : List Rx) (d g : Int), g ≤ (wng l d g).2 := by
        intro l
        induction l with
        | nil => intro d g; rw [wng]; exact Int.le_refl _
        | cons a l ih =>
          intro d g
          rw [wng]
          have := (wcbb a d g).1
          split
          · have := ih d (wpi a d g).2; omega
          · exact this
      have := hle l d (wpi r d g).2
      rw [okRs, Bool.and_eq_true]
      exact ⟨h1 d g hg hr (by omega), h2 d _ (by omega) h3 h4⟩
    · rw [if_neg hr] at h3; cases h3
theorem wvlb {r : Rx} (h : wvk r = true) : okR r = true := by
  rw [wvk, Bool.and_eq_true, Bool.and_eq_true, decide_eq_true_eq, decide_eq_true_eq] at h
  exact walk_ok r 0 0 (Int.le_refl _) h.2.1 h.2.2
theorem ev_ways (s : List UInt8) (bol : Bool) (hs : s.length ≤ 12) : ∀ r : Rx, wyc r ≤ 1000000 → okR r = true → wvac s bol r := by
  refine Rx.rec (motive_1 := fun r => wyc r ≤ 1000000 → okR r = true → wvac s bol r) (motive_2 := fun l => wtc l ≤ 1000000 → okRs l = true → wweb s bol l) ?_ ?_ ?_
  · intro k mn mx n set l ih hn hok
    rw [wyc] at hn
    have hl := wuv l
    refine wwac s bol hs k mn mx n set l (by omega) hok (ih (by omega) ?_)
    rw [okR, Bool.and_eq_true] at hok
    exact hok.2
  · intro _ _ r h; cases h
  · intro r l h1 h2 hn hok x hx
    rw [wtc] at hn
    rw [okRs, Bool.and_eq_true] at hok
    rcases List.mem_cons.1 hx with rfl | hx
    · intro y hy
      exact ⟨wbt (s := s) rfl (bol := bol) _ hok.1 y hy, h1 (by omega) hok.1 y hy⟩
    · exact h2 (by omega) hok.2 x hx
theorem webc {len : Nat} {a : Int} (h1 : 0 ≤ a) (h2 : a ≤ len) : GdS len (a, wef) := by
  refine ⟨h1, h2, rfl, rfl, fun g g1 g3 => .inl ?_⟩
  rcases (show g = 1 ∨ g = 2 ∨ g = 3 by omega) with rfl | rfl | rfl <;> exact ⟨rfl, rfl⟩
def wnh (r : Rx) (s : List UInt8) (bol : Bool) (a : Int) : List St := if wvk r = true ∧ 0 ≤ a ∧ a ≤ s.length then wbf s bol r (a, wef) else []
theorem wiy {r : Rx} {s : List UInt8} {bol : Bool} {a : Int} : RwS s.length a (wnh r s bol a) := by
  unfold wnh
  split
  · rename_i h
    exact wbt (s := s) rfl (bol := bol) r (wvlb h.1) (a, wef) (webc h.2.1 h.2.2)
  · exact .nil
theorem ev_Ways (r : Rx) (hn : wyc r ≤ 1000000) (s : List UInt8) (hs : s.length ≤ 12) (bol : Bool) (a : Int) : lim Try.prog cfg (.call 36 [.agg ⟨rxC r⟩, str s, .bool bol, .int .i64 a]) (HP []) = some (.val (FL (wnh r s bol a).length (stsC (wnh r s bol a))), HP []) := by
  have h := wulb r hn
  refine wec hc wow (Nat.le_of_ble_eq_true rfl) (Nat.le_of_ble_eq_true rfl) ?_
  unfold wiv wnh
  have h0 := whac
  cases hr : wvk r with
  | false =>
    rw [if_neg (by simp)]
    rw [hr] at h
    clear hr h0
    (repeat' (first | (simp -implicitDefEqProofs (maxSteps := 2000000) (disch := first | with_reducible assumption | omega | (simp only [zS, zA, seval, zD] <;> omega) | fail) only [zS, argl, insA, Go.Den.wm, wo, wu, looks, wcb, wbb, idOf, riA, seval, Go.Den.wh, kK, wyb, wic, *, zT]) | (with_reducible (first | apply z1 | apply z2 | apply z3 | apply z4) <;> intro hq <;> (try simp only [zH] at hq) <;> (try (exfalso; omega))) | (with_reducible apply z5; (case hl => (repeat (first | exact .nil | with_reducible apply z6 | with_reducible apply z7))); (case h => kernel_rfl))))
  | true =>
    rw [hr] at h
    by_cases h1 : 0 ≤ a
    · by_cases h2 : a ≤ s.length
      · rw [if_pos ⟨rfl, h1, h2⟩]
        have hw := ev_ways s bol hs r hn (wvlb hr) (a, wef) (webc h1 h2)
        rw [← st_fold] at hw
        clear hr
        (repeat' (first | (simp -implicitDefEqProofs (maxSteps := 2000000) (disch := first | with_reducible assumption | omega | (simp only [zS, zA, seval, zD] <;> omega) | fail) only [zS, argl, insA, Go.Den.wm, wo, wu, looks, wcb, wbb, idOf, riA, seval, Go.Den.wh, kK, wyb, wic, *, zT]) | (with_reducible (first | apply z1 | apply z2 | apply z3 | apply z4) <;> intro hq <;> (try simp only [zH] at hq) <;> (try (exfalso; omega))) | (with_reducible apply z5; (case hl => (repeat (first | exact .nil | with_reducible apply z6 | with_reducible apply z7))); (case h => kernel_rfl))))
      · rw [if_neg (fun h => h2 h.2.2)]
        clear hr h0
        (repeat' (first | (simp -implicitDefEqProofs (maxSteps := 2000000) (disch := first | with_reducible assumption | omega | (simp only [zS, zA, seval, zD] <;> omega) | fail) only [zS, argl, insA, Go.Den.wm, wo, wu, looks, wcb, wbb, idOf, riA, seval, Go.Den.wh, kK, wyb, wic, *, zT]) | (with_reducible (first | apply z1 | apply z2 | apply z3 | apply z4) <;> intro hq <;> (try simp only [zH] at hq) <;> (try (exfalso; omega))) | (with_reducible apply z5; (case hl => (repeat (first | exact .nil | with_reducible apply z6 | with_reducible apply z7))); (case h => kernel_rfl))))
    · rw [if_neg (fun h => h1 h.2.1)]
      clear hr h0
      (repeat' (first | (simp -implicitDefEqProofs (maxSteps := 2000000) (disch := first | with_reducible assumption | omega | (simp only [zS, zA, seval, zD] <;> omega) | fail) only [zS, argl, insA, Go.Den.wm, wo, wu, looks, wcb, wbb, idOf, riA, seval, Go.Den.wh, kK, wyb, wic, *, zT]) | (with_reducible (first | apply z1 | apply z2 | apply z3 | apply z4) <;> intro hq <;> (try simp only [zH] at hq) <;> (try (exfalso; omega))) | (with_reducible apply z5; (case hl => (repeat (first | exact .nil | with_reducible apply z6 | with_reducible apply z7))); (case h => kernel_rfl))))
end
end Go.Proofs.Ytgpabbbibmnnlaa
namespace Go.Proofs.Ytgpabbbibmnnlaa
set_option linter.unusedVariables false
set_option linter.unusedSimpArgs false
open Go.Den
noncomputable section
def wwk : List St → Option St → Option St
  | [], b => b
  | x :: l, none => wwk l (some x)
  | x :: l, some b => wwk l (if x.1 > b.1 then some x else some b)
def bst (b : Option St) : St := b.getD St.zero
abbrev fiB (r : Rx) (b : Option St) : List ABlk := [X (rxC r) 47 0 true, X (mtC Mt.zero) 53 0 true, X (stC (bst b)) 87 0 true]
theorem first_in (r : Rx) (s : List UInt8) (a : Int) (l : List St) (hl : l.length ≤ 16000000) : ∀ (k i : Nat) (b : Option St), i + k = l.length →
    lim Try.prog cfg (.loop 27 0 (wme 1) (SE (EJ 70 G0) [(45, .int .i64 i), (44, .int .i64 l.length), (43, FL l.length (stsC l)), (10, .bool b.isSome), (9, .pointer (some ⟨2, 0, none⟩)), (8, .int .i64 a), (6, .pointer (some ⟨1, 0, none⟩)), (3, .pointer (some ⟨0, 0, none⟩)), (1, str s)])) (HP (fiB r b)) = some (.code (.exit 2) (SE (EJ 70 G0) [(10, .bool (wwk (l.drop i) b).isSome), (9, .pointer (some ⟨2, 0, none⟩)), (8, .int .i64 a), (6, .pointer (some ⟨1, 0, none⟩)), (3, .pointer (some ⟨0, 0, none⟩)), (1, str s)]), HP (fiB r (wwk (l.drop i) b))) := by
  intro k
  induction k with
  | zero =>
    intro i b hi
    rw [List.drop_of_length_le (by omega), wwk]
    refine wab wvf ?_
    unfold wag
    (repeat' (first | (simp -implicitDefEqProofs (maxSteps := 2000000) (disch := first | with_reducible assumption | omega | (simp only [zS, zA, seval, wms, weg, zD] <;> omega) | fail) only [zS, argl, insA, Go.Den.wm, wo, wu, looks, wcb, wbb, idOf, riA, seval, Go.Den.wh, kK, whe, *, zT]) | (with_reducible (first | apply z1 | apply z2 | apply z3 | apply z4) <;> intro hq <;> (try simp only [zH] at hq) <;> (try (exfalso; omega)))))
  | succ k ih =>
    intro i b hi
    rw [wfg l (by omega)]
    cases b with
    | none =>
      have h := ih (i + 1) (some (l.getD i St.zero)) (by omega)
      rw [wwk]
      clear ih
      refine wab wvf ?_
      unfold wag
      (repeat' (first | (simp -implicitDefEqProofs (maxSteps := 2000000) (disch := first | with_reducible assumption | omega | (simp only [zS, zA, seval, wms, weg, zD] <;> omega) | fail) only [zS, argl, insA, Go.Den.wm, wo, wu, looks, wcb, wbb, idOf, riA, seval, Go.Den.wh, kK, whe, wyb, wic, Option.isSome_none, *, zT]) | (with_reducible (first | apply z1 | apply z2 | apply z3 | apply z4) <;> intro hq <;> (try simp only [zH] at hq) <;> (try (exfalso; omega)))))
      exact h
    | some b =>
      rw [wwk]
      by_cases hq : (l.getD i St.zero).1 > b.1
      · rw [if_pos hq]
        have h := ih (i + 1) (some (l.getD i St.zero)) (by omega)
        clear ih
        refine wab wvf ?_
        unfold wag
        (repeat' (first | (simp -implicitDefEqProofs (maxSteps := 2000000) (disch := first | with_reducible assumption | omega | (simp only [zS, zA, seval, wms, weg, zD] <;> omega) | fail) only [zS, argl, insA, Go.Den.wm, wo, wu, looks, wcb, wbb, idOf, riA, seval, Go.Den.wh, kK, whe, wyb, wic, bst, Option.getD_some, *, zT]) | (with_reducible (first | apply z1 | apply z2 | apply z3 | apply z4) <;> intro hq <;> (try simp only [zH] at hq) <;> (try (exfalso; omega)))))
        exact h
      · rw [if_neg hq]
        have h := ih (i + 1) (some b) (by omega)
        clear ih
        refine wab wvf ?_
        unfold wag
        (repeat' (first | (simp -implicitDefEqProofs (maxSteps := 2000000) (disch := first | with_reducible assumption | omega | (simp only [zS, zA, seval, wms, weg, zD] <;> omega) | fail) only [zS, argl, insA, Go.Den.wm, wo, wu, looks, wcb, wbb, idOf, riA, seval, Go.Den.wh, kK, whe, wyb, wic, bst, Option.getD_some, *, zT]) | (with_reducible (first | apply z1 | apply z2 | apply z3 | apply z4) <;> intro hq <;> (try simp only [zH] at hq) <;> (try (exfalso; omega)))))
        exact h
end
end Go.Proofs.Ytgpabbbibmnnlaa
namespace Go.Proofs.Ytgpabbbibmnnlaa
set_option linter.unusedVariables false
set_option linter.unusedSimpArgs false
open Go.Den
noncomputable section
def wxk (r : Rx) (s : List UInt8) : Nat → Int → Option Mt
  | 0, _ => none
  | k + 1, a => match wwk (wnh r s true a) none with
    | some b => some ((b.2.put 0 a).put 1 b.1)
    | none => wxk r s k (a + 1)
def firO : Option Mt → Option (Out × AH)
  | none => some (.code (.exit 0) (SE (EJ 70 G0) [(7, JK), (6, .pointer (some ⟨0, 0, none⟩))]), HP [X (mtC Mt.zero) 53 0 true])
  | some m => some (.code .ret (SE (EJ 70 G0) [(7, .bool true), (6, .pointer (some ⟨0, 0, none⟩))]), HP [X (mtC m) 53 0 true])
theorem st_set12 {b : St} {x y : Int} : ((stC b).set 1 (.int .i64 x)).set 2 (.int .i64 y) = stC (b.1, (b.2.put 0 x).put 1 y) := by
  show (Value.int .i64 b.1 :: ((mtC b.2).set 0 _).set 1 _) = _
  rw [wizb, wizb]; rfl
theorem ej70 : (EJ 70 G0).get 7 = JK := rfl
set_option maxHeartbeats 4000000 in
theorem wfbc (r : Rx) (hn : wyc r ≤ 1000000) (s : List UInt8) (hs : s.length ≤ 12) : ∀ (k : Nat) (a : Int), 0 ≤ a → a + k = s.length + 1 →
    lim Try.prog cfg (.loop 27 0 (wme 0) (SE (EJ 70 G0) [(8, .int .i64 a), (6, .pointer (some ⟨1, 0, none⟩)), (3, .pointer (some ⟨0, 0, none⟩)), (1, str s)])) (HP [X (rxC r) 47 0 true, X (mtC Mt.zero) 53 0 true]) = firO (wxk r s k a) := by
  intro k
  induction k with
  | zero =>
    intro a h0 hi
    rw [wxk, firO]
    refine wab wwf ?_
    unfold wbg
    (repeat' (first | (simp -implicitDefEqProofs (maxSteps := 2000000) (disch := first | with_reducible assumption | omega | (simp only [zS, zA, seval, wdb, wjb, wms, weg, zD] <;> omega) | fail) only [zS, argl, insA, Go.Den.wm, wo, wu, looks, wcb, wbb, idOf, riA, seval, Go.Den.wh, kK, whd, wdb, wjb, ej70, *, zT]) | (with_reducible (first | apply z1 | apply z2 | apply z3 | apply z4) <;> intro hq <;> (try simp only [zH] at hq) <;> (try (exfalso; omega)))))
  | succ k ih =>
    intro a h0 hi
    have h := ih (a + 1) (by omega) (by omega)
    have hw := ev_Ways r hn s hs true a
    have hl := row_len (wiy (r := r) (s := s) (bol := true) (a := a)) hs
    have h2 := first_in r s a (wnh r s true a) (by omega) _ 0 none (by rw [Nat.zero_add])
    unfold fiB at h2
    rw [List.drop_zero, show ((0 : Nat) : Int) = 0 from rfl, show bst none = St.zero from rfl, show (none : Option St).isSome = false from rfl] at h2
    rw [wxk]
    clear ih
    generalize wnh r s true a = l at hw hl h2 ⊢
    generalize wwk l none = b at h2 ⊢
    have hz : stC St.zero = [.int .i64 0, .int .i64 0, .int .i64 0, .int .i64 0, .int .i64 0, .int .i64 0, .int .i64 0, .int .i64 0, .int .i64 0] := rfl
    rw [hz] at h2
    cases b with
    | none =>
      rw [show bst none = St.zero from rfl, show (none : Option St).isSome = false from rfl, hz] at h2
      clear hz
      generalize wxk r s k (a + 1) = o at h ⊢
      cases o with
      | none =>
        rw [firO] at h ⊢
        refine wab wwf ?_
        unfold wbg
        (repeat' (first | (simp -implicitDefEqProofs (maxSteps := 2000000) (disch := first | with_reducible assumption | omega | (simp only [zS, zA, seval, wdb, wjb, wms, weg, zD] <;> omega) | fail) only [zS, argl, insA, Go.Den.wm, wo, wu, looks, wcb, wbb, idOf, riA, seval, Go.Den.wh, kK, whd, whe, wdb, wjb, ej70, *, zT]) | (with_reducible (first | apply z1 | apply z2 | apply z3 | apply z4) <;> intro hq <;> (try simp only [zH] at hq) <;> (try (exfalso; omega)))))
      | some m =>
        rw [firO] at h ⊢
        refine wab wwf ?_
        unfold wbg
        (repeat' (first | (simp -implicitDefEqProofs (maxSteps := 2000000) (disch := first | with_reducible assumption | omega | (simp only [zS, zA, seval, wdb, wjb, wms, weg, zD] <;> omega) | fail) only [zS, argl, insA, Go.Den.wm, wo, wu, looks, wcb, wbb, idOf, riA, seval, Go.Den.wh, kK, whd, whe, wdb, wjb, ej70, *, zT]) | (with_reducible (first | apply z1 | apply z2 | apply z3 | apply z4) <;> intro hq <;> (try simp only [zH] at hq) <;> (try (exfalso; omega)))))
    | some b =>
      rw [show bst (some b) = b from rfl, show (some b).isSome = true from rfl] at h2
      rw [firO]
      clear hz h
      refine wab wwf ?_
      unfold wbg
      (repeat' (first | (simp -implicitDefEqProofs (maxSteps := 2000000) (disch := first | with_reducible assumption | omega | (simp only [zS, zA, seval, wdb, wjb, wms, weg, zD] <;> omega) | fail) only [zS, argl, insA, Go.Den.wm, wo, wu, looks, wcb, wbb, idOf, riA, seval, Go.Den.wh, kK, whd, whe, st_set12, wdb, wjb, ej70, *, zT]) | (with_reducible (first | apply z1 | apply z2 | apply z3 | apply z4) <;> intro hq <;> (try simp only [zH] at hq) <;> (try (exfalso; omega)))))
def wye (r : Rx) (s : List UInt8) (a : Int) : Option Mt := if wvk r = true ∧ 0 ≤ a ∧ a ≤ s.length then wxk r s (s.length + 1 - a).toNat a else none
theorem webb (r : Rx) (hn : wyc r ≤ 1000000) (s : List UInt8) (hs : s.length ≤ 12) (a : Int) : lim Try.prog cfg (.call 27 [.agg ⟨rxC r⟩, str s, .int .i64 a]) (HP []) = some (.val (.tuple ⟨[.agg ⟨mtC ((wye r s a).getD wef)⟩, .bool (wye r s a).isSome]⟩), HP []) := by
  have hr := wulb r hn
  have h0 := whac
  refine wec hc wks (Nat.le_of_ble_eq_true rfl) (Nat.le_of_ble_eq_true rfl) ?_
  unfold wsq wye
  cases hrv : wvk r with
  | false =>
    rw [if_neg (by simp), Option.getD_none, Option.isSome_none]
    rw [hrv] at hr
    clear hrv
    (repeat' (first | (simp -implicitDefEqProofs (maxSteps := 2000000) (disch := first | with_reducible assumption | omega | (simp only [zS, zA, seval, weg, zD] <;> omega) | fail) only [zS, argl, insA, Go.Den.wm, wo, wu, looks, wcb, wbb, idOf, riA, seval, Go.Den.wh, kK, whd, wyb, wic, *, zT]) | (with_reducible (first | apply z1 | apply z2 | apply z3 | apply z4) <;> intro hq <;> (try simp only [zH] at hq) <;> (try (exfalso; omega)))))
  | true =>
    rw [hrv] at hr
    clear hrv
    by_cases h1 : 0 ≤ a
    · by_cases h2 : a ≤ s.length
      · rw [if_pos ⟨rfl, h1, h2⟩]
        have h := wfbc r hn s hs (s.length + 1 - a).toNat a h1 (by omega)
        generalize wxk r s (s.length + 1 - a).toNat a = o at h ⊢
        cases o with
        | none =>
          rw [firO] at h
          rw [Option.getD_none, Option.isSome_none]
          rw [show mtC Mt.zero = [.int .i64 0, .int .i64 0, .int .i64 0, .int .i64 0, .int .i64 0, .int .i64 0, .int .i64 0, .int .i64 0] from rfl] at h
          (repeat' (first | (simp -implicitDefEqProofs (maxSteps := 2000000) (disch := first | with_reducible assumption | omega | (simp only [zS, zA, seval, wdb, wjb, weg, zD] <;> omega) | fail) only [zS, argl, insA, Go.Den.wm, wo, wu, looks, wcb, wbb, idOf, riA, seval, Go.Den.wh, kK, whd, wyb, wic, wdb, wjb, ej70, *, zT]) | (with_reducible (first | apply z1 | apply z2 | apply z3 | apply z4) <;> intro hq <;> (try simp only [zH] at hq) <;> (try (exfalso; omega)))))
        | some m =>
          rw [firO] at h
          rw [Option.getD_some, Option.isSome_some]
          rw [show mtC Mt.zero = [.int .i64 0, .int .i64 0, .int .i64 0, .int .i64 0, .int .i64 0, .int .i64 0, .int .i64 0, .int .i64 0] from rfl] at h
          clear h0
          (repeat' (first | (simp -implicitDefEqProofs (maxSteps := 2000000) (disch := first | with_reducible assumption | omega | (simp only [zS, zA, seval, wdb, wjb, weg, zD] <;> omega) | fail) only [zS, argl, insA, Go.Den.wm, wo, wu, looks, wcb, wbb, idOf, riA, seval, Go.Den.wh, kK, whd, wyb, wic, wdb, wjb, ej70, *, zT]) | (with_reducible (first | apply z1 | apply z2 | apply z3 | apply z4) <;> intro hq <;> (try simp only [zH] at hq) <;> (try (exfalso; omega)))))
      · rw [if_neg (fun h => h2 h.2.2), Option.getD_none, Option.isSome_none]
        (repeat' (first | (simp -implicitDefEqProofs (maxSteps := 2000000) (disch := first | with_reducible assumption | omega | (simp only [zS, zA, seval, weg, zD] <;> omega) | fail) only [zS, argl, insA, Go.Den.wm, wo, wu, looks, wcb, wbb, idOf, riA, seval, Go.Den.wh, kK, whd, wyb, wic, *, zT]) | (with_reducible (first | apply z1 | apply z2 | apply z3 | apply z4) <;> intro hq <;> (try simp only [zH] at hq) <;> (try (exfalso; omega)))))
    · rw [if_neg (fun h => h1 h.2.1), Option.getD_none, Option.isSome_none]
      (repeat' (first | (simp -implicitDefEqProofs (maxSteps := 2000000) (disch := first | with_reducible assumption | omega | (simp only [zS, zA, seval, weg, zD] <;> omega) | fail) only [zS, argl, insA, Go.Den.wm, wo, wu, looks, wcb, wbb, idOf, riA, seval, Go.Den.wh, kK, whd, wyb, wic, *, zT]) | (with_reducible (first | apply z1 | apply z2 | apply z3 | apply z4) <;> intro hq <;> (try simp only [zH] at hq) <;> (try (exfalso; omega)))))
end
end Go.Proofs.Ytgpabbbibmnnlaa
namespace Go.Proofs.Ytgpabbbibmnnlaa
set_option linter.unusedVariables false
set_option linter.unusedSimpArgs false
open Go.Den
noncomputable section
theorem best_mem : ∀ (l : List St) (b : Option St) (x : St), wwk l b = some x → x ∈ l ∨ b = some x := by
  intro l
  induction l with
  | nil => intro b x h; exact .inr h
  | cons y l ih =>
    intro b x h
    cases b with
    | none =>
      rw [wwk] at h
      rcases ih _ _ h with h | h
      · exact .inl (List.mem_cons_of_mem _ h)
      · cases h; exact .inl (List.mem_cons_self ..)
    | some b =>
      rw [wwk] at h
      rcases ih _ _ h with h | h
      · exact .inl (List.mem_cons_of_mem _ h)
      · split at h
        · cases h; exact .inl (List.mem_cons_self ..)
        · exact .inr h
theorem wrjb {r : Rx} {s : List UInt8} {m : Mt} : ∀ (k : Nat) (a : Int), wxk r s k a = some m → ∃ b : St, ∃ a2 : Int, a ≤ a2 ∧ a2 < a + k ∧ wwk (wnh r s true a2) none = some b ∧ m = (b.2.put 0 a2).put 1 b.1 := by
  intro k
  induction k with
  | zero => intro a h; cases h
  | succ k ih =>
    intro a h
    rw [wxk] at h
    cases hb : wwk (wnh r s true a) none with
    | some b =>
      rw [hb] at h
      cases h
      exact ⟨b, a, Int.le_refl _, by omega, hb, rfl⟩
    | none =>
      rw [hb] at h
      obtain ⟨b, a2, h1, h2, h3, h4⟩ := ih (a + 1) h
      exact ⟨b, a2, by omega, by omega, h3, h4⟩
theorem mt_at0 {m : Mt} {x y : Int} : ((m.put 0 x).put 1 y).at 0 = x := by rw [Mt.at_put, if_neg (by omega), Mt.at_put, if_pos ⟨rfl, by omega⟩]
theorem mt_at1 {m : Mt} {x y : Int} : ((m.put 0 x).put 1 y).at 1 = y := by rw [Mt.at_put, if_pos ⟨rfl, by omega⟩]
theorem wzeb {r : Rx} {s : List UInt8} {a : Int} {m : Mt} (h : wye r s a = some m) : 0 ≤ a ∧ a ≤ m.at 0 ∧ m.at 0 ≤ m.at 1 ∧ m.at 1 ≤ s.length := by
  unfold wye at h
  split at h
  · rename_i hq
    obtain ⟨b, a2, h1, h2, h3, h4⟩ := wrjb _ _ h
    subst h4
    rw [mt_at0, mt_at1]
    rcases best_mem _ _ _ h3 with hb | hb
    · have := (wiy (r := r) (s := s) (bol := true) (a := a2)).good b hb
      exact ⟨hq.2.1, h1, this.2, this.1.hi⟩
    · cases hb
  · cases h
theorem ev_FHas (r : Rx) (hn : wyc r ≤ 1000000) (s : List UInt8) (hs : s.length ≤ 12) : lim Try.prog cfg (.call 33 [.agg ⟨rxC r⟩, str s]) (HP []) = some (.val (.bool (wye r s 0).isSome), HP []) := by
  have h := webb r hn s hs 0
  generalize (wye r s 0).getD wef = m at h
  generalize (wye r s 0).isSome = b at h ⊢
  refine wec hc wnw (Nat.le_of_ble_eq_true rfl) (Nat.le_of_ble_eq_true rfl) ?_
  unfold whv
  (repeat' (first | (simp -implicitDefEqProofs (maxSteps := 2000000) (disch := first | with_reducible assumption | omega | (simp only [zS, zA, seval, zD] <;> omega) | fail) only [zS, argl, insA, Go.Den.wm, wo, wu, looks, wcb, wbb, idOf, riA, seval, Go.Den.wh, kK, *, zT]) | (with_reducible (first | apply z1 | apply z2 | apply z3 | apply z4) <;> intro hq <;> (try simp only [zH] at hq) <;> (try (exfalso; omega)))))
def alF (r : Rx) (s : List UInt8) : Nat → Int → Int → List Mt → Bool × List Mt
  | 0, _, _, out => (true, out)
  | k + 1, a, last, out => if a ≤ s.length then (match wye r s a with
    | none => (false, out)
    | some m => if m.at 0 = m.at 1 then (if m.at 1 = last then alF r s k (m.at 1 + 1) last out else alF r s k (m.at 1 + 1) (m.at 1) (out ++ [m])) else alF r s k (m.at 1) (m.at 1) (out ++ [m])) else (true, out)
def alV (l : List Mt) : Value := if l = [] then .slice none 0 0 else FO 0 l.length (mtsC l)
def alH (l : List Mt) : List ABlk := if l = [] then [] else [.tok l.length 53 8]
def alO (p : Bool × List Mt) : Option (Out × AH) := if p.1 = true then some (.code (.exit 0) (SE (EJ 47 G0) [(5, alV p.2), (4, JK)]), HP (alH p.2)) else some (.code .ret (SE (EJ 47 G0) [(5, alV p.2), (4, alV p.2)]), HP (alH p.2))
theorem ej47 : (EJ 47 G0).get 4 = JK := rfl
theorem wafb {r : Rx} {s : List UInt8} : ∀ (k : Nat) (a last : Int) (out : List Mt), out ≠ [] → (alF r s k a last out).2 ≠ [] := by
  intro k
  induction k with
  | zero => intro a l out h; exact h
  | succ k ih =>
    intro a l out h
    rw [alF]
    split
    · split
      · exact h
      · split
        · split
          · exact ih _ _ _ h
          · exact ih _ _ _ (by simp)
        · exact ih _ _ _ (by simp)
    · exact h
theorem wqo {p : Bool × List Mt} (h : p.2 ≠ []) : alO p = some (.code (if p.1 = true then .exit 0 else .ret) (SE (EJ 47 G0) [(5, FO 0 p.2.length (mtsC p.2)), (4, if p.1 = true then JK else FO 0 p.2.length (mtsC p.2))]), HP [.tok p.2.length 53 8]) := by
  unfold alO alV alH
  rw [if_neg h, if_neg h]
  split <;> rfl
theorem wwlb {l : List Mt} {m : Mt} : mtsC (l ++ [m]) = mtsC l ++ mtC m := by rw [wuab, mts_app]
set_option maxHeartbeats 4000000 in
theorem wbfb (r : Rx) (hn : wyc r ≤ 1000000) (s : List UInt8) (hs : s.length ≤ 12) : ∀ (k : Nat) (a last : Int) (out : List Mt), 0 ≤ a → a ≤ s.length + 1 → s.length + 1 ≤ a + k → out ≠ [] → (out.length : Int) ≤ a →
    lim Try.prog cfg (.loop 30 0 (woj 0) (SE (EJ 47 G0) [(7, .int .i64 a), (6, .int .i64 last), (5, FO 1 out.length (mtsC out)), (2, .pointer (some ⟨0, 0, none⟩)), (1, str s)])) (HP [X (rxC r) 47 0 true, .tok out.length 53 8]) = alO (alF r s k a last out) := by
  intro k
  induction k with
  | zero =>
    intro a last out h0 h1 h2 ho hl
    rw [alF, wqo ho, if_pos rfl, if_pos rfl]
    refine wab wkb ?_
    unfold wub
    (repeat' (first | (simp -implicitDefEqProofs (maxSteps := 2000000) (disch := first | with_reducible assumption | omega | (simp only [zS, zA, seval, wdb, wjb, zD] <;> omega) | fail) only [zS, argl, insA, Go.Den.wm, wo, wu, looks, wcb, wbb, idOf, riA, seval, Go.Den.wh, kK, wnb, wdb, wjb, ej47, *, zT]) | (with_reducible (first | apply z1 | apply z2 | apply z3 | apply z4) <;> intro hq <;> (try simp only [zH] at hq) <;> (try (exfalso; omega)))))
  | succ k ih =>
    intro a last out h0 h1 h2 ho hl
    rw [alF]
    by_cases ha : a ≤ s.length
    · rw [if_pos ha]
      have hf := webb r hn s hs a
      cases hm : wye r s a with
      | none =>
        rw [hm, Option.getD_none, Option.isSome_none] at hf
        show _ = alO (false, out)
        rw [wqo ho, if_neg (by simp), if_neg (by simp)]
        clear ih hm
        refine wab wkb ?_
        unfold wub
        (repeat' (first | (simp -implicitDefEqProofs (maxSteps := 2000000) (disch := first | with_reducible assumption | omega | (simp only [zS, zA, seval, wdb, wjb, zD] <;> omega) | fail) only [zS, argl, insA, Go.Den.wm, wo, wu, looks, wcb, wbb, idOf, riA, seval, Go.Den.wh, kK, wnb, wdb, wjb, ej47, *, zT]) | (with_reducible (first | apply z1 | apply z2 | apply z3 | apply z4) <;> intro hq <;> (try simp only [zH] at hq) <;> (try (exfalso; omega)))))
      | some m =>
        rw [hm, Option.getD_some, Option.isSome_some] at hf
        have hr := wzeb hm
        clear hm
        show _ = alO (if m.at 0 = m.at 1 then (if m.at 1 = last then alF r s k (m.at 1 + 1) last out else alF r s k (m.at 1 + 1) (m.at 1) (out ++ [m])) else alF r s k (m.at 1) (m.at 1) (out ++ [m]))
        by_cases hq : m.at 0 = m.at 1
        · rw [if_pos hq]
          by_cases hl2 : m.at 1 = last
          · rw [if_pos hl2]
            have h := ih (m.at 1 + 1) last out (by omega) (by omega) (by omega) ho (by omega)
            have hne := wafb (r := r) (s := s) k (m.at 1 + 1) last out ho
            generalize alF r s k (m.at 1 + 1) last out = p at h hne ⊢
            obtain ⟨b, l⟩ := p
            rw [wqo hne] at h ⊢
            rw [hl2] at h
            clear ih
            cases b with
            | true =>
              rw [if_pos rfl, if_pos rfl] at h ⊢
              refine wab wkb ?_
              unfold wub
              (repeat' (first | (simp -implicitDefEqProofs (maxSteps := 2000000) (disch := first | with_reducible assumption | omega | (simp only [zS, zA, seval, wdb, wjb, wwg, weg, zD] <;> omega) | fail) only [zS, argl, insA, Go.Den.wm, wo, wu, looks, wcb, wbb, idOf, riA, seval, Go.Den.wh, kK, wnb, wdb, wjb, ej47, *, zT]) | (with_reducible (first | apply z1 | apply z2 | apply z3 | apply z4) <;> intro hq <;> (try simp only [zH] at hq) <;> (try (exfalso; omega)))))
            | false =>
              rw [if_neg (by simp), if_neg (by simp)] at h ⊢
              refine wab wkb ?_
              unfold wub
              (repeat' (first | (simp -implicitDefEqProofs (maxSteps := 2000000) (disch := first | with_reducible assumption | omega | (simp only [zS, zA, seval, wdb, wjb, wwg, weg, zD] <;> omega) | fail) only [zS, argl, insA, Go.Den.wm, wo, wu, looks, wcb, wbb, idOf, riA, seval, Go.Den.wh, kK, wnb, wdb, wjb, ej47, *, zT]) | (with_reducible (first | apply z1 | apply z2 | apply z3 | apply z4) <;> intro hq <;> (try simp only [zH] at hq) <;> (try (exfalso; omega)))))
          · rw [if_neg hl2]
            have h := ih (m.at 1 + 1) (m.at 1) (out ++ [m]) (by omega) (by omega) (by omega) (by simp) (by simp; omega)
            have hne := wafb (r := r) (s := s) k (m.at 1 + 1) (m.at 1) (out ++ [m]) (by simp)
            generalize alF r s k (m.at 1 + 1) (m.at 1) (out ++ [m]) = p at h hne ⊢
            obtain ⟨b, l⟩ := p
            rw [wqo hne] at h ⊢
            clear ih
            rw [show (out ++ [m]).length = out.length + 1 by simp, wwlb] at h
            cases b with
            | true =>
              rw [if_pos rfl, if_pos rfl] at h ⊢
              refine wab wkb ?_
              unfold wub
              (repeat' (first | (simp -implicitDefEqProofs (maxSteps := 2000000) (disch := first | with_reducible assumption | omega | (simp only [zS, zA, seval, wdb, wjb, wwg, weg, zD] <;> omega) | fail) only [zS, argl, insA, Go.Den.wm, wo, wu, looks, wcb, wbb, idOf, riA, seval, Go.Den.wh, kK, wnb, wdb, wjb, ej47, *, zT]) | (with_reducible (first | apply z1 | apply z2 | apply z3 | apply z4) <;> intro hq <;> (try simp only [zH] at hq) <;> (try (exfalso; omega)))))
            | false =>
              rw [if_neg (by simp), if_neg (by simp)] at h ⊢
              refine wab wkb ?_
              unfold wub
              (repeat' (first | (simp -implicitDefEqProofs (maxSteps := 2000000) (disch := first | with_reducible assumption | omega | (simp only [zS, zA, seval, wdb, wjb, wwg, weg, zD] <;> omega) | fail) only [zS, argl, insA, Go.Den.wm, wo, wu, looks, wcb, wbb, idOf, riA, seval, Go.Den.wh, kK, wnb, wdb, wjb, ej47, *, zT]) | (with_reducible (first | apply z1 | apply z2 | apply z3 | apply z4) <;> intro hq <;> (try simp only [zH] at hq) <;> (try (exfalso; omega)))))
        · rw [if_neg hq]
          have h := ih (m.at 1) (m.at 1) (out ++ [m]) (by omega) (by omega) (by omega) (by simp) (by simp; omega)
          have hne := wafb (r := r) (s := s) k (m.at 1) (m.at 1) (out ++ [m]) (by simp)
          generalize alF r s k (m.at 1) (m.at 1) (out ++ [m]) = p at h hne ⊢
          obtain ⟨b, l⟩ := p
          rw [wqo hne] at h ⊢
          clear ih
          rw [show (out ++ [m]).length = out.length + 1 by simp, wwlb] at h
          cases b with
          | true =>
            rw [if_pos rfl, if_pos rfl] at h ⊢
            refine wab wkb ?_
            unfold wub
            (repeat' (first | (simp -implicitDefEqProofs (maxSteps := 2000000) (disch := first | with_reducible assumption | omega | (simp only [zS, zA, seval, wdb, wjb, wwg, weg, zD] <;> omega) | fail) only [zS, argl, insA, Go.Den.wm, wo, wu, looks, wcb, wbb, idOf, riA, seval, Go.Den.wh, kK, wnb, wdb, wjb, ej47, *, zT]) | (with_reducible (first | apply z1 | apply z2 | apply z3 | apply z4) <;> intro hq <;> (try simp only [zH] at hq) <;> (try (exfalso; omega)))))
          | false =>
            rw [if_neg (by simp), if_neg (by simp)] at h ⊢
            refine wab wkb ?_
            unfold wub
            (repeat' (first | (simp -implicitDefEqProofs (maxSteps := 2000000) (disch := first | with_reducible assumption | omega | (simp only [zS, zA, seval, wdb, wjb, wwg, weg, zD] <;> omega) | fail) only [zS, argl, insA, Go.Den.wm, wo, wu, looks, wcb, wbb, idOf, riA, seval, Go.Den.wh, kK, wnb, wdb, wjb, ej47, *, zT]) | (with_reducible (first | apply z1 | apply z2 | apply z3 | apply z4) <;> intro hq <;> (try simp only [zH] at hq) <;> (try (exfalso; omega)))))
    · rw [if_neg ha]
      show _ = alO (true, out)
      rw [wqo ho, if_pos rfl, if_pos rfl]
      clear ih
      refine wab wkb ?_
      unfold wub
      (repeat' (first | (simp -implicitDefEqProofs (maxSteps := 2000000) (disch := first | with_reducible assumption | omega | (simp only [zS, zA, seval, wdb, wjb, zD] <;> omega) | fail) only [zS, argl, insA, Go.Den.wm, wo, wu, looks, wcb, wbb, idOf, riA, seval, Go.Den.wh, kK, wnb, wdb, wjb, ej47, *, zT]) | (with_reducible (first | apply z1 | apply z2 | apply z3 | apply z4) <;> intro hq <;> (try simp only [zH] at hq) <;> (try (exfalso; omega)))))
theorem wvv {b : Bool} : alO (b, []) = some (.code (if b = true then .exit 0 else .ret) (SE (EJ 47 G0) [(5, .slice none 0 0), (4, if b = true then JK else .slice none 0 0)]), HP []) := by
  unfold alO alV alH
  rw [if_pos rfl, if_pos rfl]
  cases b <;> rfl
set_option maxHeartbeats 4000000 in
theorem wgbc (r : Rx) (hn : wyc r ≤ 1000000) (s : List UInt8) (hs : s.length ≤ 12) : ∀ (k : Nat) (a last : Int), 0 ≤ a → a ≤ s.length + 1 → s.length + 1 ≤ a + k →
    lim Try.prog cfg (.loop 30 0 (woj 0) (SE (EJ 47 G0) [(7, .int .i64 a), (6, .int .i64 last), (5, .slice none 0 0), (2, .pointer (some ⟨0, 0, none⟩)), (1, str s)])) (HP [X (rxC r) 47 0 true]) = alO (alF r s k a last []) := by
  intro k
  induction k with
  | zero =>
    intro a last h0 h1 h2
    rw [alF, wvv, if_pos rfl, if_pos rfl]
    refine wab wkb ?_
    unfold wub
    (repeat' (first | (simp -implicitDefEqProofs (maxSteps := 2000000) (disch := first | with_reducible assumption | omega | (simp only [zS, zA, seval, wdb, wjb, zD] <;> omega) | fail) only [zS, argl, insA, Go.Den.wm, wo, wu, looks, wcb, wbb, idOf, riA, seval, Go.Den.wh, kK, wnb, wdb, wjb, ej47, *, zT]) | (with_reducible (first | apply z1 | apply z2 | apply z3 | apply z4) <;> intro hq <;> (try simp only [zH] at hq) <;> (try (exfalso; omega)))))
  | succ k ih =>
    intro a last h0 h1 h2
    rw [alF]
    by_cases ha : a ≤ s.length
    · rw [if_pos ha]
      have hf := webb r hn s hs a
      cases hm : wye r s a with
      | none =>
        rw [hm, Option.getD_none, Option.isSome_none] at hf
        show _ = alO (false, [])
        rw [wvv, if_neg (by simp), if_neg (by simp)]
        clear ih hm
        refine wab wkb ?_
        unfold wub
        (repeat' (first | (simp -implicitDefEqProofs (maxSteps := 2000000) (disch := first | with_reducible assumption | omega | (simp only [zS, zA, seval, wdb, wjb, zD] <;> omega) | fail) only [zS, argl, insA, Go.Den.wm, wo, wu, looks, wcb, wbb, idOf, riA, seval, Go.Den.wh, kK, wnb, wdb, wjb, ej47, *, zT]) | (with_reducible (first | apply z1 | apply z2 | apply z3 | apply z4) <;> intro hq <;> (try simp only [zH] at hq) <;> (try (exfalso; omega)))))
      | some m =>
        rw [hm, Option.getD_some, Option.isSome_some] at hf
        have hr := wzeb hm
        clear hm
        show _ = alO (if m.at 0 = m.at 1 then (if m.at 1 = last then alF r s k (m.at 1 + 1) last [] else alF r s k (m.at 1 + 1) (m.at 1) ([] ++ [m])) else alF r s k (m.at 1) (m.at 1) ([] ++ [m]))
        rw [List.nil_append]
        by_cases hq : m.at 0 = m.at 1
        · rw [if_pos hq]
          by_cases hl2 : m.at 1 = last
          · rw [if_pos hl2]
            have h := ih (m.at 1 + 1) last (by omega) (by omega) (by omega)
            generalize alF r s k (m.at 1 + 1) last [] = p at h ⊢
            obtain ⟨b, l⟩ := p
            rw [hl2] at h
            clear ih
            by_cases hne : l = []
            · subst hne
              rw [wvv] at h ⊢
              cases b with
              | true =>
                rw [if_pos rfl, if_pos rfl] at h ⊢
                refine wab wkb ?_
                unfold wub
                (repeat' (first | (simp -implicitDefEqProofs (maxSteps := 2000000) (disch := first | with_reducible assumption | omega | (simp only [zS, zA, seval, wdb, wjb, wwg, weg, zD] <;> omega) | fail) only [zS, argl, insA, Go.Den.wm, wo, wu, looks, wcb, wbb, idOf, riA, seval, Go.Den.wh, kK, wnb, wdb, wjb, ej47, *, zT]) | (with_reducible (first | apply z1 | apply z2 | apply z3 | apply z4) <;> intro hq <;> (try simp only [zH] at hq) <;> (try (exfalso; omega)))))
              | false =>
                rw [if_neg (by simp), if_neg (by simp)] at h ⊢
                refine wab wkb ?_
                unfold wub
                (repeat' (first | (simp -implicitDefEqProofs (maxSteps := 2000000) (disch := first | with_reducible assumption | omega | (simp only [zS, zA, seval, wdb, wjb, wwg, weg, zD] <;> omega) | fail) only [zS, argl, insA, Go.Den.wm, wo, wu, looks, wcb, wbb, idOf, riA, seval, Go.Den.wh, kK, wnb, wdb, wjb, ej47, *, zT]) | (with_reducible (first | apply z1 | apply z2 | apply z3 | apply z4) <;> intro hq <;> (try simp only [zH] at hq) <;> (try (exfalso; omega)))))
            · rw [wqo hne] at h ⊢
              cases b with
              | true =>
                rw [if_pos rfl, if_pos rfl] at h ⊢
                refine wab wkb ?_
                unfold wub
                (repeat' (first | (simp -implicitDefEqProofs (maxSteps := 2000000) (disch := first | with_reducible assumption | omega | (simp only [zS, zA, seval, wdb, wjb, wwg, weg, zD] <;> omega) | fail) only [zS, argl, insA, Go.Den.wm, wo, wu, looks, wcb, wbb, idOf, riA, seval, Go.Den.wh, kK, wnb, wdb, wjb, ej47, *, zT]) | (with_reducible (first | apply z1 | apply z2 | apply z3 | apply z4) <;> intro hq <;> (try simp only [zH] at hq) <;> (try (exfalso; omega)))))
              | false =>
                rw [if_neg (by simp), if_neg (by simp)] at h ⊢
                refine wab wkb ?_
                unfold wub
                (repeat' (first | (simp -implicitDefEqProofs (maxSteps := 2000000) (disch := first | with_reducible assumption | omega | (simp only [zS, zA, seval, wdb, wjb, wwg, weg, zD] <;> omega) | fail) only [zS, argl, insA, Go.Den.wm, wo, wu, looks, wcb, wbb, idOf, riA, seval, Go.Den.wh, kK, wnb, wdb, wjb, ej47, *, zT]) | (with_reducible (first | apply z1 | apply z2 | apply z3 | apply z4) <;> intro hq <;> (try simp only [zH] at hq) <;> (try (exfalso; omega)))))
          · rw [if_neg hl2]
            have h := wbfb r hn s hs k (m.at 1 + 1) (m.at 1) [m] (by omega) (by omega) (by omega) (by simp) (by simp; omega)
            have hne := wafb (r := r) (s := s) k (m.at 1 + 1) (m.at 1) [m] (List.cons_ne_nil m [])
            generalize alF r s k (m.at 1 + 1) (m.at 1) [m] = p at h hne ⊢
            obtain ⟨b, l⟩ := p
            rw [wqo hne] at h ⊢
            clear ih
            rw [show [m].length = 1 from rfl, ← wuab] at h
            cases b with
            | true =>
              rw [if_pos rfl, if_pos rfl] at h ⊢
              refine wab wkb ?_
              unfold wub
              (repeat' (first | (simp -implicitDefEqProofs (maxSteps := 2000000) (disch := first | with_reducible assumption | omega | (simp only [zS, zA, seval, wdb, wjb, wwg, weg, zD] <;> omega) | fail) only [zS, argl, insA, Go.Den.wm, wo, wu, looks, wcb, wbb, idOf, riA, seval, Go.Den.wh, kK, wnb, wdb, wjb, ej47, *, zT]) | (with_reducible (first | apply z1 | apply z2 | apply z3 | apply z4) <;> intro hq <;> (try simp only [zH] at hq) <;> (try (exfalso; omega)))))
            | false =>
              rw [if_neg (by simp), if_neg (by simp)] at h ⊢
              refine wab wkb ?_
              unfold wub
              (repeat' (first | (simp -implicitDefEqProofs (maxSteps := 2000000) (disch := first | with_reducible assumption | omega | (simp only [zS, zA, seval, wdb, wjb, wwg, weg, zD] <;> omega) | fail) only [zS, argl, insA, Go.Den.wm, wo, wu, looks, wcb, wbb, idOf, riA, seval, Go.Den.wh, kK, wnb, wdb, wjb, ej47, *, zT]) | (with_reducible (first | apply z1 | apply z2 | apply z3 | apply z4) <;> intro hq <;> (try simp only [zH] at hq) <;> (try (exfalso; omega)))))
        · rw [if_neg hq]
          have h := wbfb r hn s hs k (m.at 1) (m.at 1) [m] (by omega) (by omega) (by omega) (by simp) (by simp; omega)
          have hne := wafb (r := r) (s := s) k (m.at 1) (m.at 1) [m] (List.cons_ne_nil m [])
          generalize alF r s k (m.at 1) (m.at 1) [m] = p at h hne ⊢
          obtain ⟨b, l⟩ := p
          rw [wqo hne] at h ⊢
          clear ih
          rw [show [m].length = 1 from rfl, ← wuab] at h
          cases b with
          | true =>
            rw [if_pos rfl, if_pos rfl] at h ⊢
            refine wab wkb ?_
            unfold wub
            (repeat' (first | (simp -implicitDefEqProofs (maxSteps := 2000000) (disch := first | with_reducible assumption | omega | (simp only [zS, zA, seval, wdb, wjb, wwg, weg, zD] <;> omega) | fail) only [zS, argl, insA, Go.Den.wm, wo, wu, looks, wcb, wbb, idOf, riA, seval, Go.Den.wh, kK, wnb, wdb, wjb, ej47, *, zT]) | (with_reducible (first | apply z1 | apply z2 | apply z3 | apply z4) <;> intro hq <;> (try simp only [zH] at hq) <;> (try (exfalso; omega)))))
          | false =>
            rw [if_neg (by simp), if_neg (by simp)] at h ⊢
            refine wab wkb ?_
            unfold wub
            (repeat' (first | (simp -implicitDefEqProofs (maxSteps := 2000000) (disch := first | with_reducible assumption | omega | (simp only [zS, zA, seval, wdb, wjb, wwg, weg, zD] <;> omega) | fail) only [zS, argl, insA, Go.Den.wm, wo, wu, looks, wcb, wbb, idOf, riA, seval, Go.Den.wh, kK, wnb, wdb, wjb, ej47, *, zT]) | (with_reducible (first | apply z1 | apply z2 | apply z3 | apply z4) <;> intro hq <;> (try simp only [zH] at hq) <;> (try (exfalso; omega)))))
    · rw [if_neg ha]
      show _ = alO (true, [])
      rw [wvv, if_pos rfl, if_pos rfl]
      clear ih
      refine wab wkb ?_
      unfold wub
      (repeat' (first | (simp -implicitDefEqProofs (maxSteps := 2000000) (disch := first | with_reducible assumption | omega | (simp only [zS, zA, seval, wdb, wjb, zD] <;> omega) | fail) only [zS, argl, insA, Go.Den.wm, wo, wu, looks, wcb, wbb, idOf, riA, seval, Go.Den.wh, kK, wnb, wdb, wjb, ej47, *, zT]) | (with_reducible (first | apply z1 | apply z2 | apply z3 | apply z4) <;> intro hq <;> (try simp only [zH] at hq) <;> (try (exfalso; omega)))))
def allR (r : Rx) (s : List UInt8) : List Mt := (alF r s (s.length + 1) 0 (-1) []).2
theorem ev_All (r : Rx) (hn : wyc r ≤ 1000000) (s : List UInt8) (hs : s.length ≤ 12) : lim Try.prog cfg (.call 30 [.agg ⟨rxC r⟩, str s]) (HP []) = some (.val (FL (allR r s).length (mtsC (allR r s))), HP []) := by
  have h := wgbc r hn s hs (s.length + 1) 0 (-1) (by omega) (by omega) (by omega)
  refine wec hc wmw (Nat.le_of_ble_eq_true rfl) (Nat.le_of_ble_eq_true rfl) ?_
  unfold wgv allR
  generalize alF r s (s.length + 1) 0 (-1) [] = p at h ⊢
  obtain ⟨b, l⟩ := p
  by_cases hne : l = []
  · subst hne
    rw [wvv] at h
    cases b with
    | true =>
      rw [if_pos rfl, if_pos rfl] at h
      (repeat' (first | (simp -implicitDefEqProofs (maxSteps := 2000000) (disch := first | with_reducible assumption | omega | (simp only [zS, zA, seval, wdb, wjb, wwg, weg, zD] <;> omega) | fail) only [zS, argl, insA, Go.Den.wm, wo, wu, looks, wcb, wbb, idOf, riA, seval, Go.Den.wh, kK, wnb, wdb, wjb, ej47, *, zT]) | (with_reducible (first | apply z1 | apply z2 | apply z3 | apply z4) <;> intro hq <;> (try simp only [zH] at hq) <;> (try (exfalso; omega)))))
      all_goals rfl
    | false =>
      rw [if_neg (by simp), if_neg (by simp)] at h
      (repeat' (first | (simp -implicitDefEqProofs (maxSteps := 2000000) (disch := first | with_reducible assumption | omega | (simp only [zS, zA, seval, wdb, wjb, wwg, weg, zD] <;> omega) | fail) only [zS, argl, insA, Go.Den.wm, wo, wu, looks, wcb, wbb, idOf, riA, seval, Go.Den.wh, kK, wnb, wdb, wjb, ej47, *, zT]) | (with_reducible (first | apply z1 | apply z2 | apply z3 | apply z4) <;> intro hq <;> (try simp only [zH] at hq) <;> (try (exfalso; omega)))))
      all_goals rfl
  · rw [wqo hne] at h
    cases b with
    | true =>
      rw [if_pos rfl, if_pos rfl] at h
      (repeat' (first | (simp -implicitDefEqProofs (maxSteps := 2000000) (disch := first | with_reducible assumption | omega | (simp only [zS, zA, seval, wdb, wjb, wwg, weg, zD] <;> omega) | fail) only [zS, argl, insA, Go.Den.wm, wo, wu, looks, wcb, wbb, idOf, riA, seval, Go.Den.wh, kK, wnb, wdb, wjb, ej47, *, zT]) | (with_reducible (first | apply z1 | apply z2 | apply z3 | apply z4) <;> intro hq <;> (try simp only [zH] at hq) <;> (try (exfalso; omega)))))
      all_goals rfl
    | false =>
      rw [if_neg (by simp), if_neg (by simp)] at h
      (repeat' (first | (simp -implicitDefEqProofs (maxSteps := 2000000) (disch := first | with_reducible assumption | omega | (simp only [zS, zA, seval, wdb, wjb, wwg, weg, zD] <;> omega) | fail) only [zS, argl, insA, Go.Den.wm, wo, wu, looks, wcb, wbb, idOf, riA, seval, Go.Den.wh, kK, wnb, wdb, wjb, ej47, *, zT]) | (with_reducible (first | apply z1 | apply z2 | apply z3 | apply z4) <;> intro hq <;> (try simp only [zH] at hq) <;> (try (exfalso; omega)))))
      all_goals rfl
end
end Go.Proofs.Ytgpabbbibmnnlaa
namespace Go.Proofs.Ytgpabbbibmnnlaa
set_option linter.unusedVariables false
set_option linter.unusedSimpArgs false
open Go.Den
noncomputable section
end
end Go.Proofs.Ytgpabbbibmnnlaa
namespace Go.Den
noncomputable section
section
variable {len : Nat} {s : List UInt8} {bol : Bool} {Q : St → Prop}
end
end
end Go.Den
namespace Go.Proofs.Ytgpabbbibmnnlaa
open Go.Den
noncomputable section
def SpOk (m : Mt) : Prop := ∀ g : Nat, 1 ≤ g → g ≤ 3 → 0 ≤ m.at (g * 2) → m.at 0 ≤ m.at (g * 2) ∧ m.at (g * 2 + 1) ≤ m.at 1
def BehF (r : Rx) (s : List UInt8) (p m : Mt) : Prop :=
  p.at 1 ≤ m.at 0 ∧ ¬ (m.at 0 = m.at 1 ∧ m.at 0 = p.at 1) ∧ ∃ x, wye r s (p.at 1) = some x ∧ 0 ≤ x.at 0 ∧ x.at 0 ≤ m.at 0 ∧ (x.at 0 = m.at 0 ∨ x.at 0 = x.at 1)
structure MtOk (r : Rx) (s : List UInt8) (prev : Option Mt) (m : Mt) : Prop where
  lo : 0 ≤ m.at 0
  le : m.at 0 ≤ m.at 1
  hi : m.at 1 ≤ s.length
  sp : SpOk m
  fst : prev = none → wye r s 0 = some m
  beh : ∀ p, prev = some p → BehF r s p m
end
end Go.Proofs.Ytgpabbbibmnnlaa
namespace Go.Proofs.Ytgpabbbibmnnlaa
set_option linter.unusedVariables false
set_option linter.unusedSimpArgs false
open Go.Den
noncomputable section
end
end Go.Proofs.Ytgpabbbibmnnlaa
namespace Go.Proofs.Ytgpabbbibmnnlaa
set_option linter.unusedVariables false
set_option linter.unusedSimpArgs false
open Go.Den
noncomputable section
end
end Go.Proofs.Ytgpabbbibmnnlaa
namespace Go.Proofs.Ytgpabbbibmnnlaa
set_option linter.unusedVariables false
set_option linter.unusedSimpArgs false
open Go.Den
noncomputable section
def elems1 : Option ABlk → Option (List Value)
  | some (.cells b) => (match (bif rdOk b 0 1 then some b else none) with
    | some b => some (slotsOf b.cells 0 1)
    | none => none)
  | _ => none
def b2s1 (o : Option ABlk) : ARes := match elems1 o with
  | some l => bif l.all isU8 then val (.string ⟨(l.map toU8).toArray⟩) else .none
  | none => .none
theorem b2s_HP {h : List ABlk} (hh : h.length ≤ 1099511627774) {i c : Nat} : b2sR (HP h) (.slice (some ⟨i, 0, none⟩) 1 c) = b2s1 h[i]? := by
  have h2 : wvi (HP h) 1 1 (.slice (some ⟨i, 0, none⟩) 1 c) = elems1 h[i]? := by
    show (match wrg (HP h) ⟨i, 0, none⟩ 1 with
      | some b => some (slotsOf b.cells 0 1)
      | none => none) = _
    unfold wrg
    rw [wth h hh]
    cases h[i]? with
    | none => rfl
    | some b => cases b <;> rfl
  show (match wvi (HP h) 1 1 (.slice (some ⟨i, 0, none⟩) 1 c) with
    | some l => bif l.all isU8 then val (.string ⟨(l.map toU8).toArray⟩) else .none
    | none => .none) = _
  rw [h2]
  rfl
theorem b2s_X {x : Nat} {t z : Nat} {pf : Bool} (hx : x < 256) : b2s1 (some (X [.int .u8 (x : Nat)] t z pf)) = val (str [UInt8.ofNat x]) := by
  show (bif (Nat.blt x 256 && true) then val (.string ⟨#[UInt8.ofNat x]⟩) else .none) = _
  rw [nblt, decide_eq_true hx]
  rfl
def tb (k : Nat) : Nat := [97, 98, 97, 99, 98, 46, 97, 32].getD k 0
theorem tb_get {k : Nat} (h : k < 8) : ([.int .u8 97, .int .u8 98, .int .u8 97, .int .u8 99, .int .u8 98, .int .u8 46, .int .u8 97, .int .u8 32] : List Value)[k]? = some (.int .u8 (tb k)) := by
  rcases (show k = 0 ∨ k = 1 ∨ k = 2 ∨ k = 3 ∨ k = 4 ∨ k = 5 ∨ k = 6 ∨ k = 7 by omega) with rfl | rfl | rfl | rfl | rfl | rfl | rfl | rfl <;> rfl
theorem tb_lt (k : Nat) : tb k < 256 := by
  unfold tb
  rw [List.getD_eq_getElem?_getD]
  by_cases h : k < 8
  · rcases (show k = 0 ∨ k = 1 ∨ k = 2 ∨ k = 3 ∨ k = 4 ∨ k = 5 ∨ k = 6 ∨ k = 7 by omega) with rfl | rfl | rfl | rfl | rfl | rfl | rfl | rfl <;> decide
  · rw [List.getElem?_eq_none (by simp; omega)]; decide
def whbc (n : Int) : UInt8 := UInt8.ofNat (tb (wwl n 0 7).toNat)
def textF (l : List Int) (most : Nat) : List UInt8 := (l.take most).map whbc
theorem wsjb (n : Int) : 0 ≤ wwl n 0 7 ∧ wwl n 0 7 ≤ 7 := by
  unfold wwl
  have := Int.emod_nonneg n (show (8 : Int) ≠ 0 by omega)
  have h5 := Int.emod_lt_of_pos n (show (0 : Int) < 8 by omega)
  rw [show (7 : Int) - 0 + 1 = 8 from rfl, Int.tmod_eq_emod]
  repeat' split
  all_goals omega
theorem wibc (l : List Int) (most : Nat) (hm : most ≤ 1000) : ∀ (k i : Nat) (acc : List UInt8), i + k = min l.length most → acc.length ≤ i →
    lim Try.prog cfg (.loop 26 0 (wjg 0) (SE (EJ 31 G0) [(6, .int .i64 i), (5, str acc), (1, .int .i64 most), (0, FL l.length (ints l))])) (HP []) = some (.code (.exit 0) (SE (EJ 31 G0) [(5, str (acc ++ ((l.take most).drop i).map whbc))]), HP []) := by
  intro k
  induction k with
  | zero =>
    intro i acc hi ha
    rw [List.drop_of_length_le (by rw [List.length_take]; omega), List.map_nil, List.append_nil]
    refine wab wvh ?_
    unfold wdh
    by_cases h1 : (i : Int) < l.length
    · have h2 : ¬ (i : Int) < most := by omega
      (repeat' (first | (simp -implicitDefEqProofs (maxSteps := 2000000) (disch := first | with_reducible assumption | omega | (simp only [zS, zA, seval] <;> omega) | fail) only [zS, argl, insA, Go.Den.wm, wo, wu, looks, wcb, wbb, idOf, riA, seval, Go.Den.wh, kK, wlf, wah, wyb, wic, *]) | (with_reducible (first | apply z1 | apply z2 | apply z3 | apply z4) <;> intro hq <;> (try simp only [zH] at hq) <;> (try (exfalso; omega)))))
    · (repeat' (first | (simp -implicitDefEqProofs (maxSteps := 2000000) (disch := first | with_reducible assumption | omega | (simp only [zS, zA, seval] <;> omega) | fail) only [zS, argl, insA, Go.Den.wm, wo, wu, looks, wcb, wbb, idOf, riA, seval, Go.Den.wh, kK, wlf, wah, wyb, wic, *]) | (with_reducible (first | apply z1 | apply z2 | apply z3 | apply z4) <;> intro hq <;> (try simp only [zH] at hq) <;> (try (exfalso; omega)))))
  | succ k ih =>
    intro i acc hi ha
    have hlt : i < (l.take most).length := by rw [List.length_take]; omega
    rw [List.drop_eq_getElem_cons hlt, List.map_cons]
    have hg := wslb (l := l) (i := i) (by omega)
    have hv : (l.take most)[i] = l.getD i 0 := by rw [List.getElem_take, List.getD_eq_getElem?_getD, List.getElem?_eq_getElem (by omega)]; rfl
    rw [hv]
    have hw := wfac (l.getD i 0) 0 7 (by omega) (by omega) (by omega)
    have hin := wsjb (l.getD i 0)
    have htb := tb_get (k := (wwl (l.getD i 0) 0 7).toNat) (by omega)
    have hlt2 := tb_lt (wwl (l.getD i 0) 0 7).toNat
    have h1 : (i : Int) < l.length := by omega
    have h2 : (i : Int) < most := by omega
    · have h := ih (i + 1) (acc ++ [whbc (l.getD i 0)]) (by omega) (by simp; omega)
      rw [List.append_assoc, List.singleton_append] at h
      clear ih hv hlt
      unfold whbc at h ⊢
      generalize wwl (l.getD i 0) 0 7 = w at *
      generalize tb w.toNat = c at *
      refine wab wvh ?_
      unfold wdh
      (repeat' (first | (simp -implicitDefEqProofs (maxSteps := 2000000) (disch := first | with_reducible assumption | omega | (simp only [zS, zA, seval] <;> omega) | fail) only [zS, argl, insA, Go.Den.wm, wo, wu, looks, wcb, wbb, idOf, riA, seval, Go.Den.wh, kK, wlf, wah, wyb, wic, b2s_HP, b2s_X, *]) | (with_reducible (first | apply z1 | apply z2 | apply z3 | apply z4) <;> intro hq <;> (try simp only [zH] at hq) <;> (try (exfalso; omega)))))
      exact h
theorem ev_Text (l : List Int) (most : Nat) (hm : most ≤ 1000) : lim Try.prog cfg (.call 26 [FL l.length (ints l), .int .i64 most]) (HP []) = some (.val (str (textF l most)), HP []) := by
  have h := wibc l most hm (min l.length most) 0 [] (by omega) (by simp)
  rw [List.drop_zero, List.nil_append, show ((0 : Nat) : Int) = 0 from rfl] at h
  refine wec hc wko (Nat.le_of_ble_eq_true rfl) (Nat.le_of_ble_eq_true rfl) ?_
  unfold wsk
  show _ = some (Out.val (str ((l.take most).map whbc)), HP [])
  (repeat' (first | (simp -implicitDefEqProofs (maxSteps := 2000000) (disch := first | with_reducible assumption | omega | (simp only [zS, zA, seval] <;> omega) | fail) only [zS, argl, insA, Go.Den.wm, wo, wu, looks, wcb, wbb, idOf, riA, seval, Go.Den.wh, kK, wlf, wah, *]) | (with_reducible (first | apply z1 | apply z2 | apply z3 | apply z4) <;> intro hq <;> (try simp only [zH] at hq) <;> (try (exfalso; omega)))))
end
end Go.Proofs.Ytgpabbbibmnnlaa
namespace Go.Proofs.Ytgpabbbibmnnlaa
set_option linter.unusedVariables false
set_option linter.unusedSimpArgs false
open Go.Den
noncomputable section
end
end Go.Proofs.Ytgpabbbibmnnlaa
namespace Go.Proofs.Ytgpabbbibmnnlaa
set_option linter.unusedVariables false
set_option linter.unusedSimpArgs false
open Go.Den
noncomputable section
abbrev mkB (ks ns : List Int) (ere : Bool) : List Value := [FL ks.length (ints ks), FL ns.length (ints ns), .bool ere, .pointer (some ⟨0, 0, none⟩), .pointer (some ⟨1, 0, none⟩), .pointer (some ⟨2, 0, none⟩)]
abbrev mkH (a g l : Int) : List ABlk := [X [.int .i64 a] 3 0 true, X [.int .i64 g] 3 0 true, X [.int .i64 l] 3 0 true]
end
end Go.Proofs.Ytgpabbbibmnnlaa
namespace Go.Proofs.Ytgpabbbibmnnlaa
set_option linter.unusedVariables false
set_option linter.unusedSimpArgs false
open Go.Den
noncomputable section
end
end Go.Proofs.Ytgpabbbibmnnlaa
namespace Go.Proofs.Ytgpabbbibmnnlaa
set_option linter.unusedVariables false
set_option linter.unusedSimpArgs false
open Go.Den
noncomputable section
end
end Go.Proofs.Ytgpabbbibmnnlaa
namespace Go.Proofs.Ytgpabbbibmnnlaa
set_option linter.unusedVariables false
set_option linter.unusedSimpArgs false
open Go.Den
noncomputable section
end
end Go.Proofs.Ytgpabbbibmnnlaa
namespace Go.Proofs.Ytgpabbbibmnnlaa
set_option linter.unusedVariables false
set_option linter.unusedSimpArgs false
open Go.Den
noncomputable section
end
end Go.Proofs.Ytgpabbbibmnnlaa
namespace Go.Proofs.Ytgpabbbibmnnlaa
set_option linter.unusedVariables false
set_option linter.unusedSimpArgs false
open Go.Den
noncomputable section
end
end Go.Proofs.Ytgpabbbibmnnlaa
namespace Go.Proofs.Ytgpabbbibmnnlaa
set_option linter.unusedVariables false
set_option linter.unusedSimpArgs false
open Go.Den
noncomputable section
def rxK (t n : Nat) (c : List Value) : List Value := [.int .i64 2, .int .i64 0, .int .i64 0, .int .i64 0, .int .u64 0, .int .u64 0, .int .u64 0, .int .u64 0, FO t n c]
def PkOk (ks ns : List Int) (ere : Bool) (args : List Value) (M : Nat) : Prop :=
  ∀ (a : Nat) (g l : Int), a + M ≤ 100000 → 0 ≤ g → g ≤ 3 → -1000000 + 2 * (M : Int) ≤ l → l ≤ 1000 →
    ∃ (r : Rx) (a' : Nat) (g' l' : Int), ((lim Try.prog cfg (.call 95 (.agg ⟨mkB ks ns ere⟩ :: args)) (HP (mkH a g l)) = some (.val (.agg ⟨rxC r⟩), HP (mkH a' g' l')) ∧ r.kind ≠ 2) ∨
      ∃ rs : List Rx, r = .mk 2 0 0 0 0#256 rs ∧ 2 ≤ rs.length ∧ rs.length ≤ 3 ∧ lim Try.prog cfg (.call 95 (.agg ⟨mkB ks ns ere⟩ :: args)) (HP (mkH a g l)) = some (.val (.agg ⟨rxK 3 rs.length (rxsC rs)⟩), HP (mkH a' g' l' ++ [.tok rs.length 47 9])))
      ∧ wyc r ≤ M ∧ a' ≤ a + M ∧ 0 ≤ g' ∧ g' ≤ 3 ∧ l - 2 * (M : Int) ≤ l' ∧ l' ≤ l
end
end Go.Proofs.Ytgpabbbibmnnlaa
namespace Go.Proofs.Ytgpabbbibmnnlaa
set_option linter.unusedVariables false
set_option linter.unusedSimpArgs false
open Go.Den
noncomputable section
end
end Go.Proofs.Ytgpabbbibmnnlaa
namespace Go.Proofs.Ytgpabbbibmnnlaa
set_option linter.unusedVariables false
set_option linter.unusedSimpArgs false
open Go.Den
noncomputable section
end
end Go.Proofs.Ytgpabbbibmnnlaa
namespace Go.Proofs.Ytgpabbbibmnnlaa
set_option linter.unusedVariables false
set_option linter.unusedSimpArgs false
open Go.Den
noncomputable section
theorem PkOk.mono {ks ns : List Int} {ere : Bool} {args : List Value} {M N : Nat} (h : PkOk ks ns ere args M) (hMN : M ≤ N) : PkOk ks ns ere args N := by
  intro a g l ha hg hg3 hl hl2
  obtain ⟨r, a', g', l', e, b1, b2, b3, b4, b5, b6⟩ := h a g l (by omega) hg hg3 (by omega) hl2
  exact ⟨r, a', g', l', e, by omega, by omega, b3, b4, by omega, b6⟩
end
end Go.Proofs.Ytgpabbbibmnnlaa
namespace Go.Proofs.Ytgpabbbibmnnlaa
open Go.Den
noncomputable section
theorem wjbc (l : List Int) (n : Nat) : (textF l n).length ≤ n := by unfold textF; rw [List.length_map, List.length_take]; omega
end
end Go.Proofs.Ytgpabbbibmnnlaa
namespace Go.Proofs.Ytgpabbbibmnnlaa
open Go.Den
noncomputable section
def hitB (c : UInt8) : Bool := decide (c = 97) || decide (c = 98)
theorem ab_bit (y : UInt8) : (one 97 ||| one 98).getLsbD y.toNat = hitB y := by
  have hy := y.toNat_lt
  rw [BitVec.getLsbD_or, wfzb, wfzb, decide_eq_true (show y.toNat < 256 by omega), Bool.true_and, Bool.true_and]
  unfold hitB
  have e : ∀ z : UInt8, decide (y.toNat = z.toNat) = decide (y = z) := fun z => by
    by_cases h : y = z
    · rw [decide_eq_true h, h]; exact decide_eq_true rfl
    · rw [decide_eq_false h, decide_eq_false (fun hh => h (UInt8.toNat_inj.1 hh))]
  rw [show decide (y.toNat = 97) = decide (y = 97) from e 97, show decide (y.toNat = 98) = decide (y = 98) from e 98]
theorem hit_drop (s : List UInt8) (a : Nat) (h : a < s.length) : s.drop a = s.getD a 0 :: s.drop (a + 1) := by
  rw [List.drop_eq_getElem_cons h, List.getD_eq_getElem?_getD, List.getElem?_eq_getElem h]; rfl
end
end Go.Proofs.Ytgpabbbibmnnlaa
namespace Go.Proofs.Ytgpabbbibmnnlaa
open Go.Den
noncomputable section
def hasX (S : BitVec 256) (c : UInt8) : Bool := S.getLsbD c.toNat
theorem wkbc (s : List UInt8) (bol : Bool) (S : BitVec 256) (x : St) : wbf s bol (setX S) x = if x.1 < s.length ∧ hasX S (s.getD x.1.toNat 0) = true then [(x.1 + 1, x.2)] else [] := by
  rw [wbf, if_pos rfl]; rfl
def repL (S : BitVec 256) (mn mx : Int) : List UInt8 → Nat → Nat → List Nat
  | [], n, a => if mn ≤ n then [a] else []
  | c :: l, n, a => (if (mx < 0 ∨ n < mx) ∧ hasX S c = true then repL S mn mx l (n + 1) (a + 1) else []) ++ (if mn ≤ n then [a] else [])
theorem repL_ge {S : BitVec 256} {mn mx : Int} : ∀ (l : List UInt8) (n a : Nat), ∀ y ∈ repL S mn mx l n a, a ≤ y := by
  intro l
  induction l with
  | nil => intro n a y hy; rw [repL] at hy; split at hy <;> simp_all
  | cons c l ih =>
    intro n a y hy
    rw [repL, List.mem_append] at hy
    rcases hy with hy | hy
    · split at hy
      · have := ih _ _ y hy; omega
      · cases hy
    · split at hy <;> simp_all
theorem wjn {s : List UInt8} {a : Nat} (h : s.drop a = []) : s.length ≤ a := by
  have := congrArg List.length h
  rw [List.length_drop, List.length_nil] at this; omega
theorem wkn {s : List UInt8} {a : Nat} {c : UInt8} {l : List UInt8} (h : s.drop a = c :: l) : a < s.length ∧ s.getD a 0 = c ∧ s.drop (a + 1) = l := by
  have hl : a < s.length := by
    have := congrArg List.length h
    rw [List.length_drop, List.length_cons] at this; omega
  rw [hit_drop s a hl] at h
  injection h with h1 h2
  exact ⟨hl, h1, h2⟩
theorem on_set {s : List UInt8} {S : BitVec 256} {mn mx : Int} {m : Mt} {w : St → List St} (hw : ∀ (a : Nat), w ((a : Int), m) = if a < s.length ∧ hasX S (s.getD a 0) = true then [((a : Int) + 1, m)] else []) :
    ∀ (l : List UInt8) (k n a : Nat) (met : List (Int × St)), s.drop a = l → l.length < k → (∀ q ∈ met, q.2.1 < (a : Int)) →
      (onF w mn mx k n ((a : Int), m) (met, [])).2 = (repL S mn mx l n a).map fun b : Nat => ((b : Int), m) := by
  intro l
  induction l with
  | nil =>
    intro k n a met hd hk hm
    obtain ⟨k, rfl⟩ : ∃ j, k = j + 1 := ⟨k - 1, by simp at hk; omega⟩
    have hk' : keyF mn mx (n : Int) ((a : Int), m) ∉ met := fun h => by have := hm _ h; exact absurd this (Int.lt_irrefl _)
    have hw0 : w ((a : Int), m) = [] := by rw [hw, if_neg (fun h => absurd h.1 (by have := wjn hd; omega))]
    rw [onF, if_neg hk', hw0, repL]
    simp only [List.foldl_nil, ite_self, ge_iff_le]
    by_cases h : mn ≤ (n : Int)
    · rw [if_pos h, if_pos h]; rfl
    · rw [if_neg h, if_neg h]; rfl
  | cons c l ih =>
    intro k n a met hd hk hm
    obtain ⟨k, rfl⟩ : ∃ j, k = j + 1 := ⟨k - 1, by simp at hk; omega⟩
    obtain ⟨hl, hc, hd1⟩ := wkn hd
    have hk' : keyF mn mx (n : Int) ((a : Int), m) ∉ met := fun h => by have := hm _ h; exact absurd this (Int.lt_irrefl _)
    have hih := ih k (n + 1) (a + 1) (met ++ [keyF mn mx (n : Int) ((a : Int), m)]) hd1 (by simp at hk; omega) (by
      intro q hq
      rcases List.mem_append.1 hq with h | h
      · have := hm q h; omega
      · rw [List.mem_singleton] at h; subst h; show (a : Int) < _; omega)
    rw [onF, if_neg hk', hw, hc, repL]
    have hout : (if mx < 0 ∨ (n : Int) < mx then (if a < s.length ∧ hasX S c = true then [((a : Int) + 1, m)] else []).foldl (fun b y => if y.1 ≠ ((a : Int), m).1 ∨ (n : Int) < mn then onF w mn mx k ((n : Int) + 1) y b else b) (met ++ [keyF mn mx (n : Int) ((a : Int), m)], []) else (met ++ [keyF mn mx (n : Int) ((a : Int), m)], [])).2
        = (if (mx < 0 ∨ (n : Int) < mx) ∧ hasX S c = true then repL S mn mx l (n + 1) (a + 1) else []).map fun b : Nat => ((b : Int), m) := by
      by_cases h1 : mx < 0 ∨ (n : Int) < mx
      · rw [if_pos h1]
        by_cases h2 : hasX S c = true
        · rw [if_pos ⟨hl, h2⟩, if_pos ⟨h1, h2⟩]
          show (if ((a : Int) + 1 ≠ (a : Int) ∨ (n : Int) < mn) then onF w mn mx k ((n : Int) + 1) ((a : Int) + 1, m) (met ++ [keyF mn mx (n : Int) ((a : Int), m)], []) else _).2 = _
          rw [if_pos (.inl (by omega))]
          exact hih
        · rw [if_neg (fun h => h2 h.2), if_neg (fun h => h2 h.2)]; rfl
      · rw [if_neg h1, if_neg (fun h => h1 h.1)]; rfl
    generalize (if mx < 0 ∨ (n : Int) < mx then (if a < s.length ∧ hasX S c = true then [((a : Int) + 1, m)] else []).foldl (fun b y => if y.1 ≠ ((a : Int), m).1 ∨ (n : Int) < mn then onF w mn mx k ((n : Int) + 1) y b else b) (met ++ [keyF mn mx (n : Int) ((a : Int), m)], []) else (met ++ [keyF mn mx (n : Int) ((a : Int), m)], [])) = B at hout ⊢
    simp only [ge_iff_le]
    by_cases h : mn ≤ (n : Int)
    · rw [if_pos h, if_pos h, List.map_append, ← hout]
      show addF B.2 [((a : Int), m)] = B.2 ++ [((a : Int), m)]
      rw [wtk, addF_nil, if_neg]
      intro hin
      rw [hout] at hin
      obtain ⟨y, hy, he⟩ := List.mem_map.1 hin
      have e1 : (y : Int) = a := congrArg Prod.fst he
      split at hy
      · have := repL_ge _ _ _ y hy; omega
      · cases hy
    · rw [if_neg h, if_neg h, List.append_nil, ← hout]
theorem wln (s : List UInt8) (hs : s.length < 100) (bol : Bool) (S : BitVec 256) (mn mx : Int) (a : Nat) (m : Mt) :
    wbf s bol (repX mn mx S) ((a : Int), m) = (repL S mn mx (s.drop a) 0 a).map fun b : Nat => ((b : Int), m) := by
  rw [wbf, if_neg (by decide), if_neg (by decide), if_neg (by decide), if_neg (by decide), if_neg (by decide), if_neg (by decide), if_neg (by decide), if_pos rfl]
  refine on_set (s := s) (S := S) (w := fun y => kidF s bol [setX S] y) (fun b => ?_) (s.drop a) 100 0 a [] rfl (by rw [List.length_drop]; omega) (fun q hq => by cases hq)
  show wbf s bol (setX S) ((b : Int), m) = _
  rw [wkbc]
  by_cases h : b < s.length ∧ hasX S (s.getD b 0) = true
  · rw [if_pos h, if_pos ⟨by show (b : Int) < _; omega, h.2⟩]
  · rw [if_neg h, if_neg (fun hh => h ⟨by have h1 : (b : Int) < s.length := hh.1; omega, hh.2⟩)]
def runX (S : BitVec 256) : List UInt8 → Nat
  | [] => 0
  | c :: l => if hasX S c = true then runX S l + 1 else 0
theorem wfbb {S : BitVec 256} : ∀ (l : List UInt8), runX S l ≤ l.length := by
  intro l
  induction l with
  | nil => exact Nat.le_refl _
  | cons c l ih => rw [runX]; split <;> simp <;> omega
end
end Go.Proofs.Ytgpabbbibmnnlaa
namespace Go.Proofs.Ytgpabbbibmnnlaa
open Go.Den
noncomputable section
theorem wlbc : ∀ (xs l : List St), (l ++ xs).Nodup → addF l xs = l ++ xs := by
  intro xs
  induction xs with
  | nil => intro l _; rw [List.append_nil]; rfl
  | cons x xs ih =>
    intro l h
    have hx : x ∉ l := by
      intro hin
      rw [List.nodup_append] at h
      exact h.2.2 x hin x (List.mem_cons_self ..) rfl
    rw [wtk, if_neg hx, ih _ (by rw [List.append_assoc]; exact h), List.append_assoc]
    rfl
theorem wct (w : St → List St) (x : St) (h : (w x).Nodup) : wuw w [x] = w x := by
  show addF [] (w x) = _
  rw [wlbc _ _ h]; rfl
theorem from_end (len : Int) : ∀ (l out : List St), (out ++ l).Nodup → l.foldl (fun out y => addF out (if y.1 = len then [y] else [])) out = out ++ l.filter (fun y => decide (y.1 = len)) := by
  intro l
  induction l with
  | nil => intro out _; rw [List.foldl_nil, List.filter_nil, List.append_nil]
  | cons y l ih =>
    intro out h
    rw [List.foldl_cons, List.filter_cons]
    have hs : (out ++ l).Nodup := List.Nodup.sublist (List.Sublist.append_left (List.sublist_cons_self ..) _) h
    by_cases hy : y.1 = len
    · rw [if_pos hy, if_pos (decide_eq_true hy), wlbc _ _ (List.Nodup.sublist (by rw [show out ++ y :: l = (out ++ [y]) ++ l by simp]; exact List.sublist_append_left ..) h), ih _ (by simpa using h)]
      simp
    · rw [if_neg hy, if_neg (by rw [decide_eq_false hy]; simp)]
      exact ih _ hs
theorem wcfb (s : List UInt8) (hs : s.length < 100) (bol : Bool) (S : BitVec 256) (a : Nat) (ha : a ≤ s.length) : ((repL S 0 (-1) (s.drop a) 0 a).map fun b : Nat => ((b : Int), wef)).Nodup := by
  rw [← wln s hs bol]
  exact (wbt (s := s) rfl (bol := bol) (repX 0 (-1) S) (by rw [okR, okRs, okRs, okR, okRs]; rfl) ((a : Int), wef) (webc (by omega) (by omega))).nd
theorem rep_end {S : BitVec 256} {len : Nat} : ∀ (l : List UInt8) (n a : Nat), a + l.length = len → (repL S 0 (-1) l n a).filter (fun b => decide (b = len)) = if runX S l = l.length then [len] else [] := by
  intro l
  induction l with
  | nil => intro n a h; rw [repL, if_pos (by omega), runX]; simp at h; simp [h]
  | cons c l ih =>
    intro n a h
    rw [List.length_cons] at h
    rw [repL, if_pos (show (0 : Int) ≤ (n : Nat) by omega), List.filter_append, show [a].filter (fun b => decide (b = len)) = [] by simp; omega, List.append_nil, runX]
    by_cases hc : hasX S c = true
    · rw [if_pos ⟨.inl (by decide), hc⟩, if_pos hc, ih _ _ (by omega), List.length_cons]
      by_cases hq : runX S l = l.length
      · rw [if_pos hq, if_pos (by omega)]
      · rw [if_neg hq, if_neg (by omega)]
    · rw [if_neg (fun hh => hc hh.2), if_neg hc, if_neg (by simp)]; rfl
theorem rep_head {S : BitVec 256} : ∀ (l : List UInt8) (n a : Nat), ∃ t, repL S 0 (-1) l n a = (a + runX S l) :: t ∧ ∀ y ∈ t, y ≤ a + runX S l := by
  intro l
  induction l with
  | nil => intro n a; rw [repL, if_pos (by omega), runX]; exact ⟨[], rfl, fun y hy => by cases hy⟩
  | cons c l ih =>
    intro n a
    rw [repL, if_pos (show (0 : Int) ≤ (n : Nat) by omega), runX]
    by_cases hc : hasX S c = true
    · rw [if_pos ⟨.inl (by decide), hc⟩, if_pos hc]
      obtain ⟨t, h1, h2⟩ := ih (n + 1) (a + 1)
      rw [h1, show a + 1 + runX S l = a + (runX S l + 1) by omega]
      refine ⟨t ++ [a], rfl, fun y hy => ?_⟩
      rcases List.mem_append.1 hy with h | h
      · have := h2 y h; omega
      · rw [List.mem_singleton] at h; omega
    · rw [if_neg (fun hh => hc hh.2), if_neg hc]
      exact ⟨[], rfl, fun y hy => by cases hy⟩
theorem wmbc : ∀ (l : List St) (b : St), (∀ y ∈ l, y.1 ≤ b.1) → wwk l (some b) = some b := by
  intro l
  induction l with
  | nil => intro b _; rfl
  | cons x l ih =>
    intro b h
    rw [wwk, if_neg (by have := h x (List.mem_cons_self ..); omega)]
    exact ih b fun y hy => h y (List.mem_cons_of_mem _ hy)
theorem best_rep {S : BitVec 256} (l : List UInt8) (n a : Nat) (m : Mt) : wwk ((repL S 0 (-1) l n a).map fun b : Nat => ((b : Int), m)) none = some (((a + runX S l : Nat) : Int), m) := by
  obtain ⟨t, h1, h2⟩ := rep_head (S := S) l n a
  rw [h1, List.map_cons, wwk, wmbc]
  intro y hy
  obtain ⟨z, hz, rfl⟩ := List.mem_map.1 hy
  have := h2 z hz
  show (z : Int) ≤ ((a + runX S l : Nat) : Int)
  omega
theorem wjy : wvk wni = true := by kernel_rfl
theorem weo : wvk wlh = true := by kernel_rfl
theorem wky : wvk wzi = true := by kernel_rfl
theorem wzqb : wyc wni ≤ 1000000 := by simp only [wni, wijb, wdac, repX, setX, wyc, wtc]; omega
theorem warb : wyc wlh ≤ 1000000 := by simp only [wlh, wijb, wsqb, repX, setX, wyc, wtc]; omega
theorem wbrb : wyc wzi ≤ 1000000 := by simp only [wzi, wijb, wdac, wsqb, repX, setX, wyc, wtc]; omega
theorem wdt (s : List UInt8) (x : St) : wbf s true wdac x = if x.1 = 0 then [x] else [] := by
  rw [wbf, if_neg (by decide), if_pos rfl]; simp
theorem wgbb (s : List UInt8) (bol : Bool) (l : List Rx) (x : St) : wbf s bol (wijb l) x = catF s bol l [x] := by
  rw [wbf, if_neg (by decide), if_neg (by decide), if_neg (by decide), if_neg (by decide), if_neg (by decide), if_neg (by decide), if_pos rfl]
theorem wnbc (s : List UInt8) (hs : s.length < 100) (a : Nat) (ha : a ≤ s.length) : wnh wni s true a = if a = 0 then (repL AB 0 (-1) s 0 0).map (fun b : Nat => ((b : Int), wef)) else [] := by
  unfold wnh
  rw [if_pos ⟨wjy, by omega, by omega⟩]
  unfold wni
  rw [wgbb, catF, wct _ _ (by rw [wdt]; split <;> simp), wdt]
  by_cases h : a = 0
  · subst h
    rw [if_pos (by rfl), if_pos rfl, catF, wct _ _ (by rw [wln s hs]; exact wcfb s hs true AB 0 (by omega)), catF, wln s hs, List.drop_zero]
  · rw [if_neg (by show ¬ (a : Int) = 0; omega), if_neg h, catF]; rfl
theorem wdfb (s : List UInt8) (hs : s.length < 100) (a : Nat) (ha : a ≤ s.length) : catF s true [repX 0 (-1) AB, wsqb] [((a : Int), wef)] = if runX AB (s.drop a) = s.length - a then [((s.length : Int), wef)] else [] := by
  have hn := wcfb s hs true AB a ha
  rw [catF, wct _ _ (by rw [wln s hs]; exact hn), wln s hs, catF, catF]
  have he := from_end s.length ((repL AB 0 (-1) (s.drop a) 0 a).map fun b : Nat => ((b : Int), wef)) [] (by rw [List.nil_append]; exact hn)
  rw [List.nil_append] at he
  have hf : wuw (fun y => wbf s true wsqb y) ((repL AB 0 (-1) (s.drop a) 0 a).map fun b : Nat => ((b : Int), wef)) = ((repL AB 0 (-1) (s.drop a) 0 a).map fun b : Nat => ((b : Int), wef)).foldl (fun out y => addF out (if y.1 = (s.length : Int) then [y] else [])) [] := by
    unfold wuw
    congr 1
  rw [hf, he, List.filter_map]
  have hfun : ((fun y : St => decide (y.1 = (s.length : Int))) ∘ fun b : Nat => ((b : Int), wef)) = fun b : Nat => decide (b = s.length) := by
    funext b
    show decide ((b : Int) = (s.length : Int)) = _
    by_cases h : b = s.length
    · rw [decide_eq_true h, decide_eq_true (by omega)]
    · rw [decide_eq_false h, decide_eq_false (by omega)]
  rw [hfun, rep_end (len := s.length) _ _ _ (by rw [List.length_drop]; omega), List.length_drop]
  split <;> rfl
theorem wtjb (s : List UInt8) (hs : s.length < 100) (a : Nat) (ha : a ≤ s.length) : wnh wlh s true a = if runX AB (s.drop a) = s.length - a then [((s.length : Int), wef)] else [] := by
  unfold wnh
  rw [if_pos ⟨weo, by omega, by omega⟩]
  unfold wlh
  rw [wgbb, wdfb s hs a ha]
theorem wobc (s : List UInt8) (hs : s.length < 100) (a : Nat) (ha : a ≤ s.length) : wnh wzi s true a = if a = 0 ∧ runX AB s = s.length then [((s.length : Int), wef)] else [] := by
  unfold wnh
  rw [if_pos ⟨wky, by omega, by omega⟩]
  unfold wzi
  rw [wgbb, catF, wct _ _ (by rw [wdt]; split <;> simp), wdt]
  by_cases h : a = 0
  · subst h
    rw [if_pos (by rfl), wdfb s hs 0 (by omega), List.drop_zero, Nat.sub_zero]
    by_cases hq : runX AB s = s.length
    · rw [if_pos hq, if_pos ⟨rfl, hq⟩]
    · rw [if_neg hq, if_neg (fun hh => hq hh.2)]
  · rw [if_neg (by show ¬ (a : Int) = 0; omega), if_neg (fun hh => h hh.1), catF, catF, catF]; rfl
def wjm (a b : Int) : Mt := (wef.put 0 a).put 1 b
theorem wefb {a b : Int} : (wjm a b).at 0 = a := mt_at0
theorem wffb {a b : Int} : (wjm a b).at 1 = b := mt_at1
theorem first_no (r : Rx) (s : List UInt8) : ∀ (k a : Nat), a + k = s.length + 1 → (∀ b : Nat, a ≤ b → b ≤ s.length → wnh r s true b = []) → wxk r s k a = none := by
  intro k
  induction k with
  | zero => intro a _ _; rfl
  | succ k ih =>
    intro a ha h
    rw [wxk, h a (Nat.le_refl _) (by omega)]
    exact ih (a + 1) (by omega) fun b hb => h b (by omega)
theorem wgfb (r : Rx) (s : List UInt8) (a : Nat) (h : ∀ b : Nat, a ≤ b → b ≤ s.length → wnh r s true b = []) : wye r s a = none := by
  unfold wye
  split
  · rename_i hh
    exact first_no r s _ a (by omega) h
  · rfl
theorem wujb (r : Rx) (hr : wvk r = true) (s : List UInt8) (a : Nat) (ha : a ≤ s.length) (h : wnh r s true a = []) : wye r s a = wye r s (a + 1 : Nat) := by
  unfold wye
  rw [if_pos ⟨hr, by omega, by omega⟩, show ((s.length : Int) + 1 - (a : Nat)).toNat = (s.length - a) + 1 by omega, wxk, h]
  simp only [wwk]
  by_cases h1 : a + 1 ≤ s.length
  · rw [if_pos ⟨hr, by omega, by omega⟩, show ((s.length : Int) + 1 - (a + 1 : Nat)).toNat = s.length - a by omega]; rfl
  · rw [if_neg (by omega), show s.length - a = 0 by omega]; rfl
theorem wxl (r : Rx) (hr : wvk r = true) (s : List UInt8) (a : Nat) (ha : a ≤ s.length) {b : St} (h : wwk (wnh r s true a) none = some b) : wye r s a = some ((b.2.put 0 a).put 1 b.1) := by
  unfold wye
  rw [if_pos ⟨hr, by omega, by omega⟩, show ((s.length : Int) + 1 - (a : Nat)).toNat = (s.length - a) + 1 by omega, wxk, h]
theorem head_0 (s : List UInt8) (hs : s.length < 100) : wye wni s 0 = some (wjm 0 (runX AB s)) := by
  have h := wxl wni wjy s 0 (by omega) (b := (((0 + runX AB s : Nat) : Int), wef)) (by rw [wnbc s hs 0 (by omega), if_pos rfl, best_rep])
  rw [Nat.zero_add] at h
  exact h
theorem wpbc (s : List UInt8) (hs : s.length < 100) (a : Nat) (ha : 1 ≤ a) : wye wni s a = none :=
  wgfb _ s a fun b hb hb2 => by rw [wnbc s hs b hb2, if_neg (by omega)]
theorem whbb {r : Rx} {s : List UInt8} {a : Int} (h : wye r s a = none) (k : Nat) (last : Int) (out : List Mt) : (alF r s k a last out).2 = out := by
  cases k with
  | zero => rfl
  | succ k => rw [alF, h]; split <;> rfl
theorem all_head (s : List UInt8) (hs : s.length < 100) : allR wni s = [wjm 0 (runX AB s)] := by
  unfold allR
  rw [alF, if_pos (by omega), head_0 s hs]
  simp only [wefb, wffb]
  split
  · rename_i h0
    rw [if_neg (by omega), whbb]
    · rfl
    · rw [show (runX AB s : Int) + 1 = ((runX AB s + 1 : Nat) : Int) by omega]
      exact wpbc s hs _ (by omega)
  · rw [whbb]
    · rfl
    · exact wpbc s hs _ (by omega)
theorem run_all {S : BitVec 256} : ∀ (l : List UInt8), runX S l = l.length ↔ ∀ c ∈ l, hasX S c = true := by
  intro l
  induction l with
  | nil => exact ⟨fun _ c hc => (by cases hc), fun _ => rfl⟩
  | cons c l ih =>
    have hle := wfbb (S := S) l
    rw [runX, List.length_cons]
    by_cases hc : hasX S c = true
    · rw [if_pos hc]
      refine ⟨fun h x hx => ?_, fun h => ?_⟩
      · rcases List.mem_cons.1 hx with rfl | hx
        · exact hc
        · exact ih.1 (by omega) x hx
      · rw [ih.2 fun x hx => h x (List.mem_cons_of_mem _ hx)]
    · rw [if_neg hc]
      exact ⟨fun h => by omega, fun h => absurd (h c (List.mem_cons_self ..)) hc⟩
theorem run_take {S : BitVec 256} : ∀ (l : List UInt8) (n : Nat), n ≤ l.length → ((∀ c ∈ l.take n, hasX S c = true) ↔ n ≤ runX S l) := by
  intro l
  induction l with
  | nil => intro n hn; rw [List.length_nil] at hn; rw [List.take_nil, runX]; exact ⟨fun _ => hn, fun _ c hc => by cases hc⟩
  | cons c l ih =>
    intro n hn
    cases n with
    | zero => rw [List.take_zero]; exact ⟨fun _ => Nat.zero_le _, fun _ c hc => by cases hc⟩
    | succ n =>
      rw [List.take_succ_cons, runX]
      have h1 := ih n (by rw [List.length_cons] at hn; omega)
      by_cases hc : hasX S c = true
      · rw [if_pos hc]
        refine ⟨fun h => ?_, fun h x hx => ?_⟩
        · have := h1.1 fun x hx => h x (List.mem_cons_of_mem _ hx); omega
        · rcases List.mem_cons.1 hx with rfl | hx
          · exact hc
          · exact h1.2 (by omega) x hx
      · rw [if_neg hc]
        exact ⟨fun h => absurd (h c (List.mem_cons_self ..)) hc, fun h => by omega⟩
def wyk (S : BitVec 256) (s : List UInt8) : Nat := runX S s.reverse
theorem wwv {S : BitVec 256} {s : List UInt8} : wyk S s ≤ s.length := by
  unfold wyk
  have := wfbb (S := S) s.reverse
  rwa [List.length_reverse] at this
theorem wibb {S : BitVec 256} (s : List UInt8) (a : Nat) (ha : a ≤ s.length) : runX S (s.drop a) = s.length - a ↔ s.length - a ≤ wyk S s := by
  unfold wyk
  rw [← run_take s.reverse (s.length - a) (by rw [List.length_reverse]; omega), show s.length - a = (s.drop a).length by rw [List.length_drop], run_all, List.length_drop]
  have e : (s.reverse).take (s.length - a) = (s.drop a).reverse := by
    rw [List.take_reverse, show s.length - (s.length - a) = a by omega]
  rw [e]
  exact ⟨fun h c hc => h c (List.mem_reverse.1 hc), fun h c hc => h c (List.mem_reverse.2 hc)⟩
theorem wcrb (s : List UInt8) (hs : s.length < 100) : ∀ (k a : Nat), a + k = s.length - wyk AB s → wye wlh s a = some (wjm ((s.length - wyk AB s : Nat) : Int) s.length) := by
  have hle := wwv (S := AB) (s := s)
  intro k
  induction k with
  | zero =>
    intro a ha
    have h := wxl wlh weo s a (by omega) (b := ((s.length : Int), wef)) (by
      rw [wtjb s hs a (by omega), if_pos ((wibb s a (by omega)).2 (by omega))]; rfl)
    rw [show s.length - wyk AB s = a by omega]
    exact h
  | succ k ih =>
    intro a ha
    rw [wujb wlh weo s a (by omega) (by rw [wtjb s hs a (by omega), if_neg (fun hh => by have := (wibb s a (by omega)).1 hh; omega)])]
    exact ih (a + 1) (by omega)
theorem tail_end (s : List UInt8) (hs : s.length < 100) : wye wlh s s.length = some (wjm s.length s.length) :=
  wxl wlh weo s s.length (Nat.le_refl _) (b := ((s.length : Int), wef)) (by
      rw [wtjb s hs s.length (Nat.le_refl _), if_pos ((wibb s _ (Nat.le_refl _)).2 (by omega))]; rfl)
theorem all_tail (s : List UInt8) (hs : s.length < 100) : allR wlh s = [wjm ((s.length - wyk AB s : Nat) : Int) s.length] := by
  have hle := wwv (S := AB) (s := s)
  have h0 := wcrb s hs (s.length - wyk AB s) 0 (by omega)
  rw [show ((0 : Nat) : Int) = 0 from rfl] at h0
  unfold allR
  rw [alF, if_pos (by omega), h0]
  simp only [wefb, wffb]
  by_cases ht : ((s.length - wyk AB s : Nat) : Int) = s.length
  · rw [if_pos ht, if_neg (by omega)]
    rw [whbb]
    · rfl
    · unfold wye; rw [if_neg (by omega)]
  · rw [if_neg ht]
    obtain ⟨k, hk⟩ : ∃ k, s.length = k + 1 := ⟨s.length - 1, by omega⟩
    have hgo : (alF wlh s s.length (s.length : Int) (s.length : Int) ([] ++ [wjm ((s.length - wyk AB s : Nat) : Int) s.length])).2 = [] ++ [wjm ((s.length - wyk AB s : Nat) : Int) s.length] := by
      generalize [] ++ [wjm ((s.length - wyk AB s : Nat) : Int) s.length] = out
      have e := tail_end s hs
      generalize hn : s.length = n at *
      rw [hk, alF, ← hk, hn, if_pos (by omega), e]
      simp only [wefb, wffb, if_true, eq_self]
      rw [whbb]
      unfold wye; rw [if_neg (by omega)]
    rw [hgo]; rfl
theorem has_both (s : List UInt8) (hs : s.length < 100) : (wye wzi s 0).isSome = decide (runX AB s = s.length) := by
  by_cases h : runX AB s = s.length
  · have h1 := wxl wzi wky s 0 (by omega) (b := ((s.length : Int), wef)) (by rw [wobc s hs 0 (by omega), if_pos ⟨rfl, h⟩]; rfl)
    rw [show ((0 : Nat) : Int) = 0 from rfl] at h1
    rw [h1, decide_eq_true h]; rfl
  · have h1 := wgfb wzi s 0 fun b _ hb => by rw [wobc s hs b hb, if_neg (fun hh => h hh.2)]
    rw [show ((0 : Nat) : Int) = 0 from rfl] at h1
    rw [h1, decide_eq_false h]; rfl
end
end Go.Proofs.Ytgpabbbibmnnlaa
namespace Go.Den
noncomputable section
theorem eqc2 {a b c d : Int} : eqcV false [.int .i64, .int .i64] (.agg ⟨[.int .i64 a, .int .i64 b]⟩) (.agg ⟨[.int .i64 c, .int .i64 d]⟩) = val (.bool (decide (a = c) && decide (b = d))) := by
  rw [eqc_agg rfl rfl]
  show val (.bool ((a == c) && ((b == d) && true))) = _
  rw [Bool.and_true]; rfl
end
end Go.Den
namespace Go.Proofs.Ytgpabbbibmnnlaa
set_option linter.unusedVariables false
set_option linter.unusedSimpArgs false
open Go.Den
noncomputable section
abbrev anH (r1 r2 r3 : Rx) : List ABlk := [X (rxC r1) 47 0 false, X (rxC r2) 47 0 false, X (rxC r3) 47 0 false]
abbrev anF (s : List UInt8) (h t : Int) : List (Nat × Value) := [(14, .int .i64 t), (13, .int .i64 h), (10, .pointer (some ⟨2, 0, none⟩)), (7, .pointer (some ⟨1, 0, none⟩)), (4, .pointer (some ⟨0, 0, none⟩)), (3, str s)]
theorem hasAB (c : UInt8) : (hasX AB c = true ∧ (c.toNat : Int) = 97) ∨ (hasX AB c = true ∧ ¬ (c.toNat : Int) = 97 ∧ (c.toNat : Int) = 98) ∨ (¬ hasX AB c = true ∧ ¬ (c.toNat : Int) = 97 ∧ ¬ (c.toNat : Int) = 98) := by
  have h : hasX AB c = hitB c := ab_bit c
  rw [h]
  unfold hitB
  have e : ∀ k : Nat, k < 256 → (c = UInt8.ofNat k ↔ (c.toNat : Int) = k) := fun k hk => by
    constructor
    · intro h; rw [h]; show (((UInt8.ofNat k).toNat : Nat) : Int) = k; rw [UInt8.toNat_ofNat']; omega
    · intro h; apply UInt8.toNat_inj.1; rw [UInt8.toNat_ofNat']; omega
  have e1 : c = 97 ↔ (c.toNat : Int) = 97 := e 97 (by omega)
  have e2 : c = 98 ↔ (c.toNat : Int) = 98 := e 98 (by omega)
  by_cases h1 : (c.toNat : Int) = 97
  · left
    refine ⟨?_, h1⟩
    rw [decide_eq_true (e1.2 h1)]; rfl
  · right
    by_cases h2 : (c.toNat : Int) = 98
    · left
      refine ⟨?_, h1, h2⟩
      rw [decide_eq_true (e2.2 h2), Bool.or_true]
    · right
      refine ⟨?_, h1, h2⟩
      rw [decide_eq_false (fun hh => h1 (e1.1 hh)), decide_eq_false (fun hh => h2 (e2.1 hh))]; simp
set_option maxHeartbeats 2000000 in
theorem an_head (r1 r2 r3 : Rx) (s : List UInt8) (hs : s.length ≤ 12) (t : Int) : ∀ (l : List UInt8) (h : Nat), s.drop h = l → h ≤ s.length →
    lim Try.prog cfg (.loop 6 0 (wxb 0) (SE (EJ 138 G0) (anF s h t))) (HP (anH r1 r2 r3)) = some (.code (.exit 0) (SE (EJ 138 G0) (anF s ((h + runX AB l : Nat) : Int) t)), HP (anH r1 r2 r3)) := by
  intro l
  induction l with
  | nil =>
    intro h hd hh
    have hl := wjn hd
    rw [runX, Nat.add_zero]
    clear hd
    refine wab wbd ?_
    unfold wwc
    (repeat' (first | (simp -implicitDefEqProofs (maxSteps := 2000000) (disch := first | with_reducible assumption | omega | (simp only [zS, zA, seval, wns, zD] <;> omega) | fail) only [zS, argl, insA, Go.Den.wm, wo, wu, looks, wcb, wbb, idOf, riA, seval, Go.Den.wh, kK, wlc, wyb, wic, *, zT]) | (with_reducible (first | apply z1 | apply z2 | apply z3 | apply z4) <;> intro hq <;> (try simp only [zH] at hq) <;> (try (exfalso; omega)))))
  | cons c l ih =>
    intro h hd hh
    obtain ⟨hl, hc, hd1⟩ := wkn hd
    rw [runX]
    have hi := ih (h + 1) hd1 (by omega)
    rw [show h + 1 + runX AB l = h + (runX AB l + 1) by omega] at hi
    rcases hasAB c with ⟨q, q1⟩ | ⟨q, q1, q2⟩ | ⟨q, q1, q2⟩
    · rw [if_pos q]
      generalize h + (runX AB l + 1) = z at *
      rw [← hc] at q1
      clear ih hd hd1 hc q
      refine wab wbd ?_
      unfold wwc
      (repeat' (first | (simp -implicitDefEqProofs (maxSteps := 2000000) (disch := first | with_reducible assumption | omega | (simp only [zS, zA, seval, wns, zD] <;> omega) | fail) only [zS, argl, insA, Go.Den.wm, wo, wu, looks, wcb, wbb, idOf, riA, seval, Go.Den.wh, kK, wlc, wyb, wic, *, zT]) | (with_reducible (first | apply z1 | apply z2 | apply z3 | apply z4) <;> intro hq <;> (try simp only [zH] at hq) <;> (try (exfalso; omega)))))
      all_goals first | exact hi | trace_state
    · rw [if_pos q]
      generalize h + (runX AB l + 1) = z at *
      rw [← hc] at q1 q2
      clear ih hd hd1 hc q
      refine wab wbd ?_
      unfold wwc
      (repeat' (first | (simp -implicitDefEqProofs (maxSteps := 2000000) (disch := first | with_reducible assumption | omega | (simp only [zS, zA, seval, wns, zD] <;> omega) | fail) only [zS, argl, insA, Go.Den.wm, wo, wu, looks, wcb, wbb, idOf, riA, seval, Go.Den.wh, kK, wlc, wyb, wic, *, zT]) | (with_reducible (first | apply z1 | apply z2 | apply z3 | apply z4) <;> intro hq <;> (try simp only [zH] at hq) <;> (try (exfalso; omega)))))
      all_goals first | exact hi | trace_state
    · rw [if_neg q, Nat.add_zero]
      rw [← hc] at q1 q2
      clear ih hd hd1 hc q hi
      refine wab wbd ?_
      unfold wwc
      (repeat' (first | (simp -implicitDefEqProofs (maxSteps := 2000000) (disch := first | with_reducible assumption | omega | (simp only [zS, zA, seval, wns, zD] <;> omega) | fail) only [zS, argl, insA, Go.Den.wm, wo, wu, looks, wcb, wbb, idOf, riA, seval, Go.Den.wh, kK, wlc, wyb, wic, *, zT]) | (with_reducible (first | apply z1 | apply z2 | apply z3 | apply z4) <;> intro hq <;> (try simp only [zH] at hq) <;> (try (exfalso; omega)))))
theorem rev_at (s : List UInt8) (t : Nat) (h : t < s.length) : s.reverse.getD t 0 = s.getD ((s.length : Int) - 1 - t).toNat 0 := by
  rw [show ((s.length : Int) - 1 - t).toNat = s.length - 1 - t by omega, List.getD_eq_getElem?_getD, List.getD_eq_getElem?_getD, List.getElem?_reverse h]
set_option maxHeartbeats 2000000 in
theorem an_tail (r1 r2 r3 : Rx) (s : List UInt8) (hs : s.length ≤ 12) (h : Int) : ∀ (l : List UInt8) (t : Nat), s.reverse.drop t = l → t ≤ s.length →
    lim Try.prog cfg (.loop 6 0 (wxb 1) (SE (EJ 138 G0) (anF s h t))) (HP (anH r1 r2 r3)) = some (.code (.exit 2) (SE (EJ 138 G0) (anF s h ((t + runX AB l : Nat) : Int))), HP (anH r1 r2 r3)) := by
  intro l
  induction l with
  | nil =>
    intro t hd hh
    have hl := wjn hd
    rw [List.length_reverse] at hl
    rw [runX, Nat.add_zero]
    clear hd
    refine wab wcd ?_
    unfold wxc
    (repeat' (first | (simp -implicitDefEqProofs (maxSteps := 2000000) (disch := first | with_reducible assumption | omega | (simp only [zS, zA, seval, wns, zD] <;> omega) | fail) only [zS, argl, insA, Go.Den.wm, wo, wu, looks, wcb, wbb, idOf, riA, seval, Go.Den.wh, kK, wmc, wyb, wic, *, zT]) | (with_reducible (first | apply z1 | apply z2 | apply z3 | apply z4) <;> intro hq <;> (try simp only [zH] at hq) <;> (try (exfalso; omega)))))
  | cons c l ih =>
    intro t hd hh
    obtain ⟨hl, hc, hd1⟩ := wkn hd
    rw [List.length_reverse] at hl
    rw [rev_at s t hl] at hc
    rw [runX]
    have hi := ih (t + 1) hd1 (by omega)
    rw [show t + 1 + runX AB l = t + (runX AB l + 1) by omega] at hi
    rcases hasAB c with ⟨q, q1⟩ | ⟨q, q1, q2⟩ | ⟨q, q1, q2⟩
    · rw [if_pos q]
      generalize t + (runX AB l + 1) = z at *
      rw [← hc] at q1
      clear ih hd hd1 hc q
      refine wab wcd ?_
      unfold wxc
      (repeat' (first | (simp -implicitDefEqProofs (maxSteps := 2000000) (disch := first | with_reducible assumption | omega | (simp only [zS, zA, seval, wns, zD] <;> omega) | fail) only [zS, argl, insA, Go.Den.wm, wo, wu, looks, wcb, wbb, idOf, riA, seval, Go.Den.wh, kK, wmc, wyb, wic, *, zT]) | (with_reducible (first | apply z1 | apply z2 | apply z3 | apply z4) <;> intro hq <;> (try simp only [zH] at hq) <;> (try (exfalso; omega)))))
      all_goals first | exact hi | trace_state
    · rw [if_pos q]
      generalize t + (runX AB l + 1) = z at *
      rw [← hc] at q1 q2
      clear ih hd hd1 hc q
      refine wab wcd ?_
      unfold wxc
      (repeat' (first | (simp -implicitDefEqProofs (maxSteps := 2000000) (disch := first | with_reducible assumption | omega | (simp only [zS, zA, seval, wns, zD] <;> omega) | fail) only [zS, argl, insA, Go.Den.wm, wo, wu, looks, wcb, wbb, idOf, riA, seval, Go.Den.wh, kK, wmc, wyb, wic, *, zT]) | (with_reducible (first | apply z1 | apply z2 | apply z3 | apply z4) <;> intro hq <;> (try simp only [zH] at hq) <;> (try (exfalso; omega)))))
      all_goals first | exact hi | trace_state
    · rw [if_neg q, Nat.add_zero]
      rw [← hc] at q1 q2
      clear ih hd hd1 hc q hi
      refine wab wcd ?_
      unfold wxc
      (repeat' (first | (simp -implicitDefEqProofs (maxSteps := 2000000) (disch := first | with_reducible assumption | omega | (simp only [zS, zA, seval, wns, zD] <;> omega) | fail) only [zS, argl, insA, Go.Den.wm, wo, wu, looks, wcb, wbb, idOf, riA, seval, Go.Den.wh, kK, wmc, wyb, wic, *, zT]) | (with_reducible (first | apply z1 | apply z2 | apply z3 | apply z4) <;> intro hq <;> (try simp only [zH] at hq) <;> (try (exfalso; omega)))))
theorem decTI {a : Int} : decide (a = a) = true := decide_eq_true rfl
theorem wxlb {m : Mt} : mtsC [m] = mtC m := wuab.symm
set_option maxRecDepth 100000 in
set_option maxHeartbeats 8000000 in
theorem www (text : List Int) : lim Try.prog cfg (.call 6 [FL text.length (ints text)]) (HP []) = some (.val (.bool true), HP []) := by
  have h1 := ev_Text text 9 (by omega)
  have hs := wjbc text 9
  generalize textF text 9 = s at *
  rw [show ((9 : Nat) : Int) = 9 from rfl] at h1
  have a1 := ev_All wni wzqb s (by omega)
  have a2 := ev_All wlh warb s (by omega)
  have a3 := ev_FHas wzi wbrb s (by omega)
  rw [all_head s (by omega), wxlb, show [wjm 0 (runX AB s)].length = 1 from rfl] at a1
  rw [all_tail s (by omega), wxlb, show [wjm ((s.length - wyk AB s : Nat) : Int) s.length].length = 1 from rfl] at a2
  rw [has_both s (by omega)] at a3
  have l1 := an_head wni wlh wzi s (by omega) 0 s 0 (List.drop_zero) (by omega)
  have l2 := an_tail wni wlh wzi s (by omega) (runX AB s) s.reverse 0 (List.drop_zero) (by omega)
  rw [Nat.zero_add, show ((0 : Nat) : Int) = 0 from rfl] at l1 l2
  have l2' : lim Try.prog cfg (.loop 6 0 (wxb 1) (SE (EJ 138 G0) (anF s (runX AB s) 0))) (HP (anH wni wlh wzi)) = some (.code (.exit 2) (SE (EJ 138 G0) (anF s (runX AB s) (wyk AB s))), HP (anH wni wlh wzi)) := l2
  clear l2
  have ht := wwv (S := AB) (s := s)
  have hr := wfbb (S := AB) s
  have b1 : (wjm 0 (runX AB s)).at 0 = 0 := wefb
  have b2 : (wjm 0 (runX AB s)).at 1 = runX AB s := wffb
  have b3 : (wjm ((s.length - wyk AB s : Nat) : Int) s.length).at 0 = (s.length : Int) - wyk AB s := by rw [wefb]; omega
  have b4 : (wjm ((s.length - wyk AB s : Nat) : Int) s.length).at 1 = s.length := wffb
  generalize wjm ((s.length - wyk AB s : Nat) : Int) s.length = m2 at *
  generalize wjm 0 (runX AB s) = m1 at *
  generalize wyk AB s = t at *
  generalize runX AB s = h at *
  by_cases hq : h = s.length
  · have e3 : (h : Int) = s.length := by omega
    rw [decide_eq_true hq] at a3
    rw [e3] at l1 l2' b2
    have bb : (true == true) = true := rfl
    clear hq e3
    refine wec hc wdg (Nat.le_of_ble_eq_true rfl) (Nat.le_of_ble_eq_true rfl) ?_
    unfold wdf
    (repeat' (first | (simp -implicitDefEqProofs (maxSteps := 2000000) (disch := first | with_reducible assumption | omega | (simp only [zS, zA, seval, wwg, weg, wns, zD] <;> omega) | fail) only [zS, argl, insA, Go.Den.wm, wo, wu, looks, wcb, wbb, idOf, riA, seval, Go.Den.wh, kK, wlc, wmc, wyb, wic, wah, eqc2, decTI, Bool.and_self, *, zT]) | (with_reducible (first | apply z1 | apply z2 | apply z3 | apply z4) <;> intro hq <;> (try simp only [zH] at hq) <;> (try (exfalso; omega))) | (with_reducible apply z5; (case hl => (repeat (first | exact .nil | with_reducible apply z6 | with_reducible apply z7))); (case h => kernel_rfl))))
  · have e3 : ¬ (h : Int) = s.length := by omega
    rw [decide_eq_false hq] at a3
    have bb : (false == false) = true := rfl
    clear hq
    refine wec hc wdg (Nat.le_of_ble_eq_true rfl) (Nat.le_of_ble_eq_true rfl) ?_
    unfold wdf
    (repeat' (first | (simp -implicitDefEqProofs (maxSteps := 2000000) (disch := first | with_reducible assumption | omega | (simp only [zS, zA, seval, wwg, weg, wns, zD] <;> omega) | fail) only [zS, argl, insA, Go.Den.wm, wo, wu, looks, wcb, wbb, idOf, riA, seval, Go.Den.wh, kK, wlc, wmc, wyb, wic, wah, eqc2, decTI, Bool.and_self, *, zT]) | (with_reducible (first | apply z1 | apply z2 | apply z3 | apply z4) <;> intro hq <;> (try simp only [zH] at hq) <;> (try (exfalso; omega))) | (with_reducible apply z5; (case hl => (repeat (first | exact .nil | with_reducible apply z6 | with_reducible apply z7))); (case h => kernel_rfl))))
end
end Go.Proofs.Ytgpabbbibmnnlaa
namespace Go.Den
noncomputable section
open Go.ChangeShapes Go.WideShapes Go.RowKit
variable {P : Program} {cfg : Cfg} {H : Type} {enc : TypeId × Value → H}
theorem known_ev (weh : wtg P cfg.glob cfg.know) (hm : P.follows .mixedOrders = true) {f : FuncId} {a : List Value} {v : Value} (h : Ev P cfg (.call f a) AH0 (.val v, AH0)) (ha : wpb a = true) (hv : wpd v = true) : wbi P cfg.glob f a v := by
  obtain ⟨n, h⟩ := h
  exact wcn weh hm (h n (Nat.le_refl n)) ha hv
def renW (w : World) : Ren := ⟨fun _ _ => none, fun b i => w.cell? ⟨b, i, none⟩⟩
theorem wqbc (weh : wtg P cfg.glob cfg.know) (hm : P.follows .mixedOrders = true) (hg : cfg.glob = fun _ => none) {f : FuncId} {a : List Value} (h : Ev P cfg (.call f a) AH0 (.val (.bool true), AH0)) (ha : wpb a = true) (w : World) (args' : Array Value) (hA : VRL (renW w) a args'.toList) :
    Calls P f args' w fun e w' => e = .returned (.bool true) ∧ w.heap.size ≤ w'.heap.size ∧ (∀ b : Nat, b < w.heap.size → w'.heap[b]? = w.heap[b]?) ∧ w'.os = w.os ∧ w'.output = w.output := by
  refine (known_ev weh hm h ha rfl (renW w) w args' (fun _ _ _ h => h) (by rw [hg]; exact gok_none _) hA).mono ?_
  rintro e w' ⟨ρ', v', rfl, h1, _, _, _, _, h5, h2, h3, h4⟩
  rw [h1.bool_inv]
  exact ⟨rfl, h5, h2, h3, h4⟩
theorem same_at {W W' : World} (hb : ∀ b : Nat, b < W.heap.size → W'.heap[b]? = W.heap[b]?) {p : MemPlace} (hp : p.block < W.heap.size) : W.sameAt W' p := by
  cases p with
  | cell b o => exact World.cell?_of_block (w := W) (hb b hp)
  | map b => exact hb b hp
theorem wjbb (hl : laidOutB P = true) {W W' : World} (hb : ∀ b : Nat, b < W.heap.size → W'.heap[b]? = W.heap[b]?) {sp : Nat → Bool} : ∀ (ts : List TypeId) (vs : List Value) (ds : List (DataW H)) (ps : List MemPlace), (ts.all fun t => P.readableRec t && decide (t < P.types.size)) = true →
    DataW.TrodAll enc P W 0 (fun _ => true) true ts vs ds ps → (∀ p ∈ ps, p.block < W.heap.size) → (∀ p ∈ ps, sp p.block = true) → DataW.TrodAll enc P W' 0 sp true ts vs ds ps := by
  intro ts
  induction ts with
  | nil =>
    intro vs ds ps _ h _ _
    obtain ⟨rfl, rfl, rfl⟩ := trodAll_nil h
    exact trodAll_mk0
  | cons t ts ih =>
    intro vs ds ps ht h hlt hs
    obtain ⟨v, vs', d, ds', p, q, rfl, rfl, rfl, h0, h1⟩ := trodAll_cons h
    simp only [List.all_cons, Bool.and_eq_true, decide_eq_true_eq] at ht
    exact trodAll_cons_mk (WideElems.Trod_stays hl ht.1.1 ht.1.2 h0 (fun x hx => same_at hb (hlt x (List.mem_append_left _ hx))) (fun x hx => hs x (List.mem_append_left _ hx)))
      (ih vs' ds' q (by simpa using ht.2) h1 (fun x hx => hlt x (List.mem_append_right _ hx)) (fun x hx => hs x (List.mem_append_right _ hx)))
theorem law_post (hl : laidOutB P = true) {f : Func} {s : ChangeSpec} {apart fresh handsOn : Bool} {W W' : World} {args : Array Value} {ds gs : List (DataW H)} {before : List MemPlace}
    (hW : DataW.Whole enc P f.params.toList s.vars apart W args.toList ds gs before) (hvars : s.vars = []) (hbool : ∃ t, f.resultTypes = #[t] ∧ P.underlying t = some .bool)
    (hts : (f.params.toList.all fun t => P.readableRec t && decide (t < P.types.size)) = true)
    (hfn : s.fn H (ds ++ gs) = { results := [.lit (.bool true)], args := ds })
    (hs : ∀ b : Nat, b < W.heap.size → W'.heap[b]? = W.heap[b]?) (ho : W'.os = W.os) (hp : W'.output = W.output) : s.post enc P f apart fresh handsOn false W args (.bool true) W' := by
  have hW' := hW
  obtain ⟨p, q, hA, hV, rfl, hfz, hnd⟩ := hW
  rw [hvars] at hV
  obtain ⟨rfl, rfl⟩ := trodVars_none hV
  obtain ⟨t, ht, hu⟩ := hbool
  refine wrtb (pa := p) (pv := []) hW' (fun b sp hd => ?_) (fun sp hsp => ?_) (fun sp _ => ?_) rfl (kept_of hs ho hp)
  · rw [ht, hfn]
    exact trodAll_cons_mk (shut_bool hu _) trodAll_mk0
  · rw [hfn]
    exact wjbb hl hs _ _ _ _ hts hA (fun x hx => hW'.lt x (List.mem_append_left _ hx)) (fun x hx => hsp x (List.mem_append_left _ hx))
  · rw [hfn, hvars]
    exact rfl
end
end Go.Den
namespace Go.Den
noncomputable section
open Go.ChangeShapes Go.WideShapes Go.RowKit
variable {P : Program} {H : Type} {enc : TypeId × Value → H}
theorem row_VR {W : World} {t e : TypeId} {k : IntKind} (ht : P.underlying t = some (.slice e)) (he : P.underlying e = some (.int k)) (hc : P.cellsOf e = 1) {r : Reach} {b0 base fuel : Nat} {sp : Nat → Bool} {held : Bool} {v : Value} {x : DataW H × List MemPlace}
    (hval : Cell.okWide P W r b0 t v) (hf : DataW.trod enc P W base sp held fuel t [v] = some x) : ∃ l : List Int, VR (renW W) (FL l.length (l.map (Value.int k))) v := by
  rcases open_ints ht he hc hf with ⟨hcs, _⟩ | ⟨a, len, cap, zs, hcs, _, hl, hm, hz, _, hcell, _⟩
  · cases hcs
    exact ⟨[], .listNo⟩
  · cases hcs
    have hsp : a.spot = none := by
      simp only [Cell.okWide, ht, Cell.ok] at hval
      exact hval.2.2.2.1
    obtain ⟨blk, off, spot⟩ := a
    subst hsp
    have hlz : len ≤ zs.length := by rw [hz]; split <;> omega
    have hlen : (zs.take len).length = len := by rw [List.length_take]; omega
    refine ⟨zs.take len, ?_⟩
    rw [hlen]
    refine VR.list (a' := ⟨blk, off, none⟩) hl (fun i => .int k (zs.getD i 0)) (fun i hi => ?_) (fun i v hv => ?_)
    · rw [List.length_map, hlen] at hi
      have := hcell i (by omega)
      rw [show (⟨blk, off, none⟩ : Addr).add i = ⟨blk, off + i, none⟩ by unfold Addr.add; split <;> simp_all] at this
      exact this
    · rw [List.getElem?_map] at hv
      have hi : i < len := by
        have := (List.getElem?_eq_some_iff.1 (show ((zs.take len).map (Value.int k))[i]? = some v by rw [List.getElem?_map]; exact hv)).1
        rw [List.length_map, hlen] at this; exact this
      rw [List.getElem?_take, if_pos hi, List.getElem?_eq_getElem (by omega)] at hv
      cases hv
      rw [List.getD_eq_getElem?_getD, List.getElem?_eq_getElem (by omega)]
      exact .flat rfl
theorem wrbc {W : World} {t e : TypeId} {k : IntKind} (ht : P.underlying t = some (.slice e)) (he : P.underlying e = some (.int k)) (hc : P.cellsOf e = 1) {r : Reach} {b0 base : Nat} {sp : Nat → Bool} {held : Bool} {v : Value} {d : DataW H} {ps : List MemPlace}
    (hval : Value.okWide P W r b0 t v) (hd : DataW.Trod enc P W base sp held t v d ps) : ∃ l : List Int, VR (renW W) (FL l.length (l.map (Value.int k))) v := by
  obtain ⟨a, len, cap, rfl⟩ := okWide_slice ht hval
  obtain ⟨fuel, hf⟩ := hd
  simp only [Value.okWide, ht] at hval
  exact row_VR ht he hc hval hf
end
end Go.Den
