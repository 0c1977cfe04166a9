/-
  PARTS OF A PROOF, joined by a program (7 of 8): a proved reckoner of the model, and what the functions come to.
-/
import Derived.Test.YtjihbfdbgamcdaaQWayLaws6
set_option linter.unusedVariables false
set_option linter.unusedSimpArgs false
namespace Go.Proofs.Ytjihbfdbgamcdaa
set_option linter.unusedVariables false
set_option linter.unusedSimpArgs false
open Go.Den
noncomputable section
theorem wbrb (n : Int) (x : St) (l : List St) : groupW n x l = wiy (fun y => [grpF n x y]) l [] := rfl
section
variable (s : List UInt8) (bol : Bool)
def wpjc (r : Rx) : Prop := ∀ y, GdS s.length y → lim Try.prog cfg (.call 67 [.agg ⟨[str s, .bool bol]⟩, .agg ⟨rxC r⟩, .agg ⟨stC y⟩]) (HP []) = some (.val (FL (wcg s bol r y).length (stsC (wcg s bol r y))), HP [])
set_option maxHeartbeats 8000000 in
theorem wqjc (hs : s.length ≤ 12) (k mn mx n : Int) (set : BitVec 256) (kids : List Rx) (hlen : kids.length ≤ 16000000) (hok : okR (.mk k mn mx n set kids) = true) (ih : wmmb s bol kids) : wpjc s bol (.mk k mn mx n set kids) := by
 intro x hx
 have hlo := hx.lo
 have hhi := hx.hi
 have hrow := wwu (s := s) rfl (bol := bol) _ hok x hx
 refine wkb hc wiw (Nat.le_of_ble_eq_true rfl) (Nat.le_of_ble_eq_true rfl) ?_
 unfold wds
 rw [wcg] at hrow ⊢
 rw [okR, Bool.and_eq_true] at hok
 have hok1 := hok.1
 clear hok
 by_cases h1 : k = 1
 ·rw [if_pos h1]
  subst h1
  clear ih hrow hok1
  by_cases hx1 : x.1 < s.length
  ·have hhas := ev_Has set ((s.getD x.1.toNat 0).toNat) (by have := (s.getD x.1.toNat 0).toNat_lt; omega)
   by_cases hb : set.getLsbD (s.getD x.1.toNat 0).toNat = true
   ·rw [if_pos ⟨hx1, hb⟩]
    rw [hb] at hhas
    (repeat' (first | (simp -implicitDefEqProofs (maxSteps := 2000000) (disch := first | with_reducible assumption | omega | (simp only [zS, zA, seval, wkd, zD] <;> omega) | fail) only [zS, argl, insA, Go.Den.wm, wo, wu, looks, wab, wz, idOf, riA, seval, Go.Den.wh, kK, *, zT]) | (with_reducible (first | apply z1 | apply z2 | apply z3 | apply z4) <;> intro hq <;> (try simp only [zH] at hq) <;> (try (exfalso; omega))) | (with_reducible apply z5; (case hl => (repeat (first | exact .nil | with_reducible apply z6 | with_reducible apply z7))); (case h => kernel_rfl))))
   ·rw [if_neg (fun h => hb h.2)]
    have hb2 : set.getLsbD (s.getD x.1.toNat 0).toNat = false := by simpa using hb
    rw [hb2] at hhas
    clear hb
    (repeat' (first | (simp -implicitDefEqProofs (maxSteps := 2000000) (disch := first | with_reducible assumption | omega | (simp only [zS, zA, seval, zD] <;> omega) | fail) only [zS, argl, insA, Go.Den.wm, wo, wu, looks, wab, wz, idOf, riA, seval, Go.Den.wh, kK, *, zT]) | (with_reducible (first | apply z1 | apply z2 | apply z3 | apply z4) <;> intro hq <;> (try simp only [zH] at hq) <;> (try (exfalso; omega))) | (with_reducible apply z5; (case hl => (repeat (first | exact .nil | with_reducible apply z6 | with_reducible apply z7))); (case h => kernel_rfl))))
  ·rw [if_neg (fun h => hx1 h.1)]
   (repeat' (first | (simp -implicitDefEqProofs (maxSteps := 2000000) (disch := first | with_reducible assumption | omega | (simp only [zS, zA, seval, zD] <;> omega) | fail) only [zS, argl, insA, Go.Den.wm, wo, wu, looks, wab, wz, idOf, riA, seval, Go.Den.wh, kK, *, zT]) | (with_reducible (first | apply z1 | apply z2 | apply z3 | apply z4) <;> intro hq <;> (try simp only [zH] at hq) <;> (try (exfalso; omega))) | (with_reducible apply z5; (case hl => (repeat (first | exact .nil | with_reducible apply z6 | with_reducible apply z7))); (case h => kernel_rfl))))
 rw [if_neg h1] at hrow ⊢
 by_cases h7 : k = 7
 ·rw [if_pos h7]
  subst h7
  clear ih hrow hok1
  by_cases hx1 : x.1 = 0
  ·cases bol with
   | true =>
    rw [if_pos ⟨hx1, rfl⟩]
    (repeat' (first | (simp -implicitDefEqProofs (maxSteps := 2000000) (disch := first | with_reducible assumption | omega | (simp only [zS, zA, seval, weib, zD] <;> omega) | fail) only [zS, argl, insA, Go.Den.wm, wo, wu, looks, wab, wz, idOf, riA, seval, Go.Den.wh, kK, wy, *, zT]) | (with_reducible (first | apply z1 | apply z2 | apply z3 | apply z4) <;> intro hq <;> (try simp only [zH] at hq) <;> (try (exfalso; omega))) | (with_reducible apply z5; (case hl => (repeat (first | exact .nil | with_reducible apply z6 | with_reducible apply z7))); (case h => kernel_rfl))))
   | false =>
    rw [if_neg (fun h => by cases h.2)]
    (repeat' (first | (simp -implicitDefEqProofs (maxSteps := 2000000) (disch := first | with_reducible assumption | omega | (simp only [zS, zA, seval, zD] <;> omega) | fail) only [zS, argl, insA, Go.Den.wm, wo, wu, looks, wab, wz, idOf, riA, seval, Go.Den.wh, kK, *, zT]) | (with_reducible (first | apply z1 | apply z2 | apply z3 | apply z4) <;> intro hq <;> (try simp only [zH] at hq) <;> (try (exfalso; omega))) | (with_reducible apply z5; (case hl => (repeat (first | exact .nil | with_reducible apply z6 | with_reducible apply z7))); (case h => kernel_rfl))))
  ·rw [if_neg (fun h => hx1 h.1)]
   (repeat' (first | (simp -implicitDefEqProofs (maxSteps := 2000000) (disch := first | with_reducible assumption | omega | (simp only [zS, zA, seval, zD] <;> omega) | fail) only [zS, argl, insA, Go.Den.wm, wo, wu, looks, wab, wz, idOf, riA, seval, Go.Den.wh, kK, *, zT]) | (with_reducible (first | apply z1 | apply z2 | apply z3 | apply z4) <;> intro hq <;> (try simp only [zH] at hq) <;> (try (exfalso; omega))) | (with_reducible apply z5; (case hl => (repeat (first | exact .nil | with_reducible apply z6 | with_reducible apply z7))); (case h => kernel_rfl))))
 rw [if_neg h7] at hrow ⊢
 by_cases h8 : k = 8
 ·rw [if_pos h8]
  subst h8
  clear ih hrow hok1
  by_cases hx1 : x.1 = s.length
  ·rw [if_pos hx1]
   (repeat' (first | (simp -implicitDefEqProofs (maxSteps := 2000000) (disch := first | with_reducible assumption | omega | (simp only [zS, zA, seval, weib, zD] <;> omega) | fail) only [zS, argl, insA, Go.Den.wm, wo, wu, looks, wab, wz, idOf, riA, seval, Go.Den.wh, kK, *, zT]) | (with_reducible (first | apply z1 | apply z2 | apply z3 | apply z4) <;> intro hq <;> (try simp only [zH] at hq) <;> (try (exfalso; omega))) | (with_reducible apply z5; (case hl => (repeat (first | exact .nil | with_reducible apply z6 | with_reducible apply z7))); (case h => kernel_rfl))))
  ·rw [if_neg hx1]
   (repeat' (first | (simp -implicitDefEqProofs (maxSteps := 2000000) (disch := first | with_reducible assumption | omega | (simp only [zS, zA, seval, zD] <;> omega) | fail) only [zS, argl, insA, Go.Den.wm, wo, wu, looks, wab, wz, idOf, riA, seval, Go.Den.wh, kK, *, zT]) | (with_reducible (first | apply z1 | apply z2 | apply z3 | apply z4) <;> intro hq <;> (try simp only [zH] at hq) <;> (try (exfalso; omega))) | (with_reducible apply z5; (case hl => (repeat (first | exact .nil | with_reducible apply z6 | with_reducible apply z7))); (case h => kernel_rfl))))
 rw [if_neg h8] at hrow ⊢
 by_cases h6 : k = 6
 ·rw [if_pos h6]
  rw [if_neg (by omega), if_neg (by omega), if_pos h6] at hok1
  simp only [Bool.and_eq_true, decide_eq_true_eq] at hok1
  subst h6
  clear ih hrow
  have hb := ev_back s (by omega) bol n hok1.1 hok1.2 x hx
  (repeat' (first | (simp -implicitDefEqProofs (maxSteps := 2000000) (disch := first | with_reducible assumption | omega | (simp only [zS, zA, seval, zD] <;> omega) | fail) only [zS, argl, insA, Go.Den.wm, wo, wu, looks, wab, wz, idOf, riA, seval, Go.Den.wh, kK, *, zT]) | (with_reducible (first | apply z1 | apply z2 | apply z3 | apply z4) <;> intro hq <;> (try simp only [zH] at hq) <;> (try (exfalso; omega))) | (with_reducible apply z5; (case hl => (repeat (first | exact .nil | with_reducible apply z6 | with_reducible apply z7))); (case h => kernel_rfl))))
 rw [if_neg h6] at hrow ⊢
 by_cases h5 : k = 5
 ·rw [if_pos h5] at hrow ⊢
  rw [if_pos h5] at hok1
  simp only [Bool.and_eq_true, decide_eq_true_eq] at hok1
  subst h5
  cases kids with
  | nil => exact absurd rfl hok1.1
  | cons kid rest =>
   rw [kidF, wbrb]
   have ⟨r1, r2⟩ := ih kid (List.mem_cons_self ..) x hx
   have r3 := row_len r1 hs
   have hl := wmjc s hs (.mk 5 mn mx n set (kid :: rest)) hok1.2.1 hok1.2.2 x hx (wcg s bol kid x) (by omega) r1.good
   have hk : slotsOf (rxsC (kid :: rest)) 0 9 = rxC kid := by
    have := wfy (l := kid :: rest) (i := 0) (by simp)
    rwa [Nat.zero_mul] at this
   rw [rx_n] at hl
   clear ih r1 hrow
   generalize wiy (fun y => [grpF n x y]) (wcg s bol kid x) [] = out at hl ⊢
   by_cases ho : out = []
   ·subst ho
    rw [rowO, if_pos rfl] at hl
    (repeat' (first | (simp -implicitDefEqProofs (maxSteps := 2000000) (disch := first | with_reducible assumption | omega | (simp only [zS, zA, seval, wy, wjb, zD] <;> omega) | fail) only [zS, argl, insA, Go.Den.wm, wo, wu, looks, wab, wz, idOf, riA, seval, Go.Den.wh, kK, wug, wy, wjb, wsn, *, zT]) | (with_reducible (first | apply z1 | apply z2 | apply z3 | apply z4) <;> intro hq <;> (try simp only [zH] at hq) <;> (try (exfalso; omega))) | (with_reducible apply z5; (case hl => (repeat (first | exact .nil | with_reducible apply z6 | with_reducible apply z7))); (case h => kernel_rfl))))
   ·rw [rowO, if_neg ho] at hl
    (repeat' (first | (simp -implicitDefEqProofs (maxSteps := 2000000) (disch := first | with_reducible assumption | omega | (simp only [zS, zA, seval, wy, wjb, zD] <;> omega) | fail) only [zS, argl, insA, Go.Den.wm, wo, wu, looks, wab, wz, idOf, riA, seval, Go.Den.wh, kK, wug, wy, wjb, wsn, *, zT]) | (with_reducible (first | apply z1 | apply z2 | apply z3 | apply z4) <;> intro hq <;> (try simp only [zH] at hq) <;> (try (exfalso; omega))) | (with_reducible apply z5; (case hl => (repeat (first | exact .nil | with_reducible apply z6 | with_reducible apply z7))); (case h => kernel_rfl))))
 rw [if_neg h5] at hrow ⊢
 by_cases h3 : k = 3
 ·rw [if_pos h3]
  subst h3
  have hl := wojc s bol hs x hx kids hlen ih kids.length 0 (by omega)
  rw [List.drop_zero, show ((0 : Nat) : Int) = 0 from rfl] at hl
  clear ih hrow hok1
  generalize altF s bol kids x [] = out at hl ⊢
  by_cases ho : out = []
  ·subst ho
   rw [rowO, if_pos rfl] at hl
   (repeat' (first | (simp -implicitDefEqProofs (maxSteps := 2000000) (disch := first | with_reducible assumption | omega | (simp only [zS, zA, seval, wy, wjb, zD] <;> omega) | fail) only [zS, argl, insA, Go.Den.wm, wo, wu, looks, wab, wz, idOf, riA, seval, Go.Den.wh, kK, wof, wy, wjb, wsn, *, zT]) | (with_reducible (first | apply z1 | apply z2 | apply z3 | apply z4) <;> intro hq <;> (try simp only [zH] at hq) <;> (try (exfalso; omega))) | (with_reducible apply z5; (case hl => (repeat (first | exact .nil | with_reducible apply z6 | with_reducible apply z7))); (case h => kernel_rfl))))
  ·rw [rowO, if_neg ho] at hl
   (repeat' (first | (simp -implicitDefEqProofs (maxSteps := 2000000) (disch := first | with_reducible assumption | omega | (simp only [zS, zA, seval, wy, wjb, zD] <;> omega) | fail) only [zS, argl, insA, Go.Den.wm, wo, wu, looks, wab, wz, idOf, riA, seval, Go.Den.wh, kK, wof, wy, wjb, wsn, *, zT]) | (with_reducible (first | apply z1 | apply z2 | apply z3 | apply z4) <;> intro hq <;> (try simp only [zH] at hq) <;> (try (exfalso; omega))) | (with_reducible apply z5; (case hl => (repeat (first | exact .nil | with_reducible apply z6 | with_reducible apply z7))); (case h => kernel_rfl))))
 rw [if_neg h3] at hrow ⊢
 by_cases h2 : k = 2
 ·rw [if_pos h2]
  subst h2
  cases kids with
  | nil =>
   rw [catF]
   have hl : lim Try.prog cfg (.loop 67 0 (wdc 2) (SE (EJ 158 G0) [(130, .int .i64 0), (129, .int .i64 0), (128, FL 0 []), (7, .slice (some ⟨1, 0, none⟩) 1 2), (3, .pointer (some ⟨0, 0, none⟩))])) (HP [X [str s, .bool bol] 129 0 true, X (stC x) 81 0 true]) = some (.code (.exit 5) (SE (EJ 158 G0) [(7, .slice (some ⟨0, 0, none⟩) 1 2)]), HP [X (stC x) 81 0 true]) := by
    refine web wei ?_
    unfold wdi
    clear ih hrow
    (repeat' (first | (simp -implicitDefEqProofs (maxSteps := 2000000) (disch := first | with_reducible assumption | omega | (simp only [zS, zA, seval, zD] <;> omega) | fail) only [zS, argl, insA, Go.Den.wm, wo, wu, looks, wab, wz, idOf, riA, seval, Go.Den.wh, kK, wvg, *, zT]) | (with_reducible (first | apply z1 | apply z2 | apply z3 | apply z4) <;> intro hq <;> (try simp only [zH] at hq) <;> (try (exfalso; omega))) | (with_reducible apply z5; (case hl => (repeat (first | exact .nil | with_reducible apply z6 | with_reducible apply z7))); (case h => kernel_rfl))))
   clear ih hrow hok1
   (repeat' (first | (simp -implicitDefEqProofs (maxSteps := 2000000) (disch := first | with_reducible assumption | omega | (simp only [zS, zA, seval, zD] <;> omega) | fail) only [zS, argl, insA, Go.Den.wm, wo, wu, looks, wab, wz, idOf, riA, seval, Go.Den.wh, kK, wvg, rxsC, Int.natCast_zero, *, zT]) | (with_reducible (first | apply z1 | apply z2 | apply z3 | apply z4) <;> intro hq <;> (try simp only [zH] at hq) <;> (try (exfalso; omega))) | (with_reducible apply z5; (case hl => (repeat (first | exact .nil | with_reducible apply z6 | with_reducible apply z7))); (case h => kernel_rfl))))
  | cons kid rest =>
   rw [catF]
   have hw := ih kid (List.mem_cons_self ..)
   have hf := whjc s hs bol kid (fun y => wcg s bol kid y) x.1 [x] (by simp) (fun y hy => by rw [List.mem_singleton] at hy; subst hy; exact ⟨hx, Int.le_refl _⟩) hw
   have hr : RwS s.length x.1 (wimb (fun y => wcg s bol kid y) [x]) := by
    refine RwS.fold _ [x] (fun z hz y hy => ?_) [] .nil
    rw [List.mem_singleton] at hz
    subst hz
    exact (hw z hx).1.good y hy
   have hl := cat_loop s bol hs x.1 (kid :: rest) hlen ih rest.length 1 _ (by simp; omega) hr
   rw [show (kid :: rest).drop 1 = rest from rfl, show ((1 : Nat) : Int) = 1 from rfl] at hl
   rw [woj, show [x].length = 1 from rfl] at hf
   have hk : slotsOf (rxsC (kid :: rest)) 0 9 = rxC kid := by
    have := wfy (l := kid :: rest) (i := 0) (by simp)
    rwa [Nat.zero_mul] at this
   have hkl : 0 < (kid :: rest).length := by simp
   have hkc : 9 ≤ (rxsC (kid :: rest)).length := by rw [wgz, List.length_cons]; omega
   rw [List.length_cons] at hl
   generalize wimb (fun y => wcg s bol kid y) [x] = l1 at hf hl ⊢
   have hl0 : lim Try.prog cfg (.loop 67 0 (wdc 2) (SE (EJ 158 G0) [(130, .int .i64 0), (129, .int .i64 (rest.length + 1 : Nat)), (128, FL (rest.length + 1) (rxsC (kid :: rest))), (7, .slice (some ⟨1, 0, none⟩) 1 2), (3, .pointer (some ⟨0, 0, none⟩))])) (HP [X [str s, .bool bol] 129 0 true, X (stC x) 81 0 true]) = some (.code (.exit 5) (SE (EJ 158 G0) [(7, FL (catF s bol rest l1).length (stsC (catF s bol rest l1)))]), HP []) := by
    refine web wei ?_
    unfold wdi
    clear ih hrow hw hok1
    generalize rxsC (kid :: rest) = KC at *
    (repeat' (first | (simp -implicitDefEqProofs (maxSteps := 2000000) (disch := first | with_reducible assumption | omega | (simp only [zS, zA, seval, zD] <;> omega) | fail) only [zS, argl, insA, Go.Den.wm, wo, wu, looks, wab, wz, idOf, riA, seval, Go.Den.wh, kK, wvg, *, zT]) | (with_reducible (first | apply z1 | apply z2 | apply z3 | apply z4) <;> intro hq <;> (try simp only [zH] at hq) <;> (try (exfalso; omega))) | (with_reducible apply z5; (case hl => (repeat (first | exact .nil | with_reducible apply z6 | with_reducible apply z7))); (case h => kernel_rfl))))
   clear ih hrow hok1 hw hl hf
   (repeat' (first | (simp -implicitDefEqProofs (maxSteps := 2000000) (disch := first | with_reducible assumption | omega | (simp only [zS, zA, seval, zD] <;> omega) | fail) only [zS, argl, insA, Go.Den.wm, wo, wu, looks, wab, wz, idOf, riA, seval, Go.Den.wh, kK, wvg, *, zT]) | (with_reducible (first | apply z1 | apply z2 | apply z3 | apply z4) <;> intro hq <;> (try simp only [zH] at hq) <;> (try (exfalso; omega))) | (with_reducible apply z5; (case hl => (repeat (first | exact .nil | with_reducible apply z6 | with_reducible apply z7))); (case h => kernel_rfl))))
 rw [if_neg h2] at hrow ⊢
 by_cases h4 : k = 4
 ·rw [if_pos h4]
  rw [if_neg (by omega), if_pos h4] at hok1
  simp only [Bool.and_eq_true, decide_eq_true_eq] at hok1
  subst h4
  cases kids with
  | nil => exact absurd rfl hok1.1
  | cons kid rest =>
   have hw := ih kid (List.mem_cons_self ..)
   have hk : slotsOf (rxsC (kid :: rest)) 0 9 = rxC kid := by
    have := wfy (l := kid :: rest) (i := 0) (by simp)
    rwa [Nat.zero_mul] at this
   have hf : (fun y => kidF s bol (kid :: rest) y) = fun y => wcg s bol kid y := by funext y; rw [kidF]
   rw [hf]
   have hon := (on_all s bol mn mx n set (kid :: rest) hs ⟨hok1.2.1, hok1.2.2.1⟩ hok1.2.2.2.2 (fun y => wcg s bol kid y) x.1 ⟨kid, hk, by simp, hw⟩ 100).2 0 x [] (by omega) (by omega) hx (Int.le_refl _) (by unfold muF; split <;> omega)
   rcases hq : onF (fun y => wcg s bol kid y) mn mx 100 0 x ([], []) with ⟨met, out⟩
   rw [hq] at hon
   clear ih hrow hw hk hf hq hok1
   by_cases ho : out = []
   ·subst ho
    rw [reO, if_pos rfl] at hon
    simp only [reN, repB, wjtb, List.length_cons] at hon
    (repeat' (first | (simp -implicitDefEqProofs (maxSteps := 2000000) (disch := first | with_reducible assumption | omega | (simp only [zS, zA, seval, wy, wjb, wsb, zD] <;> omega) | fail) only [zS, argl, insA, Go.Den.wm, wo, wu, looks, wab, wz, idOf, riA, seval, Go.Den.wh, kK, wy, wjb, wsb, wsn, wqq, wsi, *, zT]) | (with_reducible (first | apply z1 | apply z2 | apply z3 | apply z4) <;> intro hq <;> (try simp only [zH] at hq) <;> (try (exfalso; omega))) | (with_reducible apply z5; (case hl => (repeat (first | exact .nil | with_reducible apply z6 | with_reducible apply z7))); (case h => kernel_rfl))))
   ·rw [reO, if_neg ho] at hon
    simp only [reE, reN, repB, wjtb, List.length_cons] at hon
    (repeat' (first | (simp -implicitDefEqProofs (maxSteps := 2000000) (disch := first | with_reducible assumption | omega | (simp only [zS, zA, seval, wy, wjb, wsb, zD] <;> omega) | fail) only [zS, argl, insA, Go.Den.wm, wo, wu, looks, wab, wz, idOf, riA, seval, Go.Den.wh, kK, wy, wjb, wsb, wsn, wqq, wsi, *, zT]) | (with_reducible (first | apply z1 | apply z2 | apply z3 | apply z4) <;> intro hq <;> (try simp only [zH] at hq) <;> (try (exfalso; omega))) | (with_reducible apply z5; (case hl => (repeat (first | exact .nil | with_reducible apply z6 | with_reducible apply z7))); (case h => kernel_rfl))))
 rw [if_neg h4]
 clear ih hrow hok1
 (repeat' (first | (simp -implicitDefEqProofs (maxSteps := 2000000) (disch := first | with_reducible assumption | omega | (simp only [zS, zA, seval, zD] <;> omega) | fail) only [zS, argl, insA, Go.Den.wm, wo, wu, looks, wab, wz, idOf, riA, seval, Go.Den.wh, kK, *, zT]) | (with_reducible (first | apply z1 | apply z2 | apply z3 | apply z4) <;> intro hq <;> (try simp only [zH] at hq) <;> (try (exfalso; omega))) | (with_reducible apply z5; (case hl => (repeat (first | exact .nil | with_reducible apply z6 | with_reducible apply z7))); (case h => kernel_rfl))))
end
end
end Go.Proofs.Ytjihbfdbgamcdaa
namespace Go.Proofs.Ytjihbfdbgamcdaa
set_option linter.unusedVariables false
set_option linter.unusedSimpArgs false
open Go.Den
noncomputable section
abbrev ints (l : List Int) : List Value := l.map (Value.int .i64)
theorem wkj {l : List Int} {i : Nat} (h : i < l.length) : (ints l)[i]? = some (.int .i64 (l.getD i 0)) := by
 rw [ints, List.getElem?_map, List.getD_eq_getElem?_getD, List.getElem?_eq_getElem h]; rfl
theorem wfb {l : List Int} : (ints l).length = l.length := List.length_map ..
theorem int_drop (l : List Int) {i : Nat} (h : i < l.length) : l.drop i = l.getD i 0 :: l.drop (i + 1) := by
 rw [List.drop_eq_getElem_cons h, List.getD_eq_getElem?_getD, List.getElem?_eq_getElem h]; rfl
theorem wiz (l : List Rx) {i : Nat} (h : i < l.length) : l.drop i = l.getD i Rx.zero :: l.drop (i + 1) := by
 rw [List.drop_eq_getElem_cons h, List.getD_eq_getElem?_getD, List.getElem?_eq_getElem h]; rfl
def fstF {α : Type} (p : α → Bool) : List α → Nat → Option Nat
 | [], _ => none
 | a :: l, i => if p a = true then some i else fstF p l (i + 1)
def fstV : Option Nat → Int
 | none => -1
 | some j => j
theorem wrjc {α : Type} (p : α → Bool) : ∀ (l : List α) (i : Nat), decide (0 ≤ fstV (fstF p l i)) = l.any p := by
 intro l
 induction l with
 | nil => intro i; rfl
 | cons a l ih =>
  intro i
  rw [fstF, List.any_cons]
  by_cases h : p a = true
  ·rw [if_pos h, h]; simp [fstV]
  ·rw [if_neg h, ih]; simp [h]
theorem wcb {P : Program} {cs : wad} {R : Type} {K : KR R} {d : Option Tmp} {l : List RO} {e : Env} {H : AH} {wr : List Nat} {want : Bool} {x : ARes} : wjlb P cs K d l e H wr want x undef = opsR P cs K l (e.put d undef) H := by cases want <;> rfl
theorem wgb {want : Bool} : wzv want undef = some false := by cases want <;> rfl
theorem wyb : refs JK = [] := rfl
theorem wbd {m : Nm} : renV m JK = JK := rfl
theorem ej19 : (EJ 19 G0).get 4 = JK := rfl
def fstO (n : Nat) : Option Nat → Option (Out × AH)
 | none => some (.code (.exit 0) (SE (EJ n G0) [(4, JK)]), HP [])
 | some j => some (.code .ret (SE (EJ n G0) [(4, .int .i64 j)]), HP [])
theorem idx_loop (l : List Int) (hl : l.length ≤ 16000000) (v : Int) : ∀ (k i : Nat), i + k = l.length →
  lim Try.prog cfg (.loop 163 0 (wbh 0) (SE (EJ 19 G0) [(8, .int .i64 i), (7, .int .i64 l.length), (1, .int .i64 v), (0, FL l.length (ints l))])) (HP []) = fstO 19 (fstF (fun a => decide (v = a)) (l.drop i) i) := by
 intro k
 induction k with
 | zero =>
  intro i hi
  rw [List.drop_of_length_le (by omega), fstF, fstO]
  refine web wif ?_
  unfold wcf
  (repeat' (first | (simp -implicitDefEqProofs (maxSteps := 2000000) (disch := first | with_reducible assumption | omega | (simp only [zS, zA, seval, wyb, wbd] <;> omega) | fail) only [zS, argl, insA, Go.Den.wm, wo, wu, looks, wab, wz, idOf, riA, seval, Go.Den.wh, kK, wbe, wfb, wyb, wbd, ej19, *]) | (with_reducible (first | apply z1 | apply z2 | apply z3 | apply z4) <;> intro hq <;> (try simp only [zH] at hq) <;> (try (exfalso; omega)))))
 | succ k ih =>
  intro i hi
  rw [int_drop l (by omega), fstF]
  have h := ih (i + 1) (by omega)
  clear ih
  have hg := wkj (l := l) (i := i) (by omega)
  by_cases hv : v = l.getD i 0
  ·rw [if_pos (by simpa using hv), fstO]
   clear h
   refine web wif ?_
   unfold wcf
   (repeat' (first | (simp -implicitDefEqProofs (maxSteps := 2000000) (disch := first | with_reducible assumption | omega | (simp only [zS, zA, seval, wyb, wbd] <;> omega) | fail) only [zS, argl, insA, Go.Den.wm, wo, wu, looks, wab, wz, idOf, riA, seval, Go.Den.wh, kK, wbe, wfb, wyb, wbd, ej19, *]) | (with_reducible (first | apply z1 | apply z2 | apply z3 | apply z4) <;> intro hq <;> (try simp only [zH] at hq) <;> (try (exfalso; omega)))))
  ·rw [if_neg (by simpa using hv)]
   generalize fstF (fun a => decide (v = a)) (l.drop (i + 1)) (i + 1) = o at h ⊢
   cases o with
   | none =>
    rw [fstO] at h ⊢
    refine web wif ?_
    unfold wcf
    (repeat' (first | (simp -implicitDefEqProofs (maxSteps := 2000000) (disch := first | with_reducible assumption | omega | (simp only [zS, zA, seval, wyb, wbd] <;> omega) | fail) only [zS, argl, insA, Go.Den.wm, wo, wu, looks, wab, wz, idOf, riA, seval, Go.Den.wh, kK, wbe, wfb, wyb, wbd, ej19, *]) | (with_reducible (first | apply z1 | apply z2 | apply z3 | apply z4) <;> intro hq <;> (try simp only [zH] at hq) <;> (try (exfalso; omega)))))
    exact h
   | some j =>
    rw [fstO] at h ⊢
    refine web wif ?_
    unfold wcf
    (repeat' (first | (simp -implicitDefEqProofs (maxSteps := 2000000) (disch := first | with_reducible assumption | omega | (simp only [zS, zA, seval, wyb, wbd] <;> omega) | fail) only [zS, argl, insA, Go.Den.wm, wo, wu, looks, wab, wz, idOf, riA, seval, Go.Den.wh, kK, wbe, wfb, wyb, wbd, ej19, *]) | (with_reducible (first | apply z1 | apply z2 | apply z3 | apply z4) <;> intro hq <;> (try simp only [zH] at hq) <;> (try (exfalso; omega)))))
    exact h
theorem ev_Index (l : List Int) (hl : l.length ≤ 16000000) (v : Int) : lim Try.prog cfg (.call 163 [FL l.length (ints l), .int .i64 v]) (HP []) = some (.val (.int .i64 (fstV (fstF (fun a => decide (v = a)) l 0))), HP []) := by
 refine wkb hc whp (Nat.le_of_ble_eq_true rfl) (Nat.le_of_ble_eq_true rfl) ?_
 unfold wlm
 have h := idx_loop l hl v l.length 0 (by omega)
 rw [List.drop_zero, show ((0 : Nat) : Int) = 0 from rfl] at h
 generalize fstF (fun a => decide (v = a)) l 0 = o at h ⊢
 rcases o with _ | j
 ·rw [fstO] at h
  (repeat' (first | (simp -implicitDefEqProofs (maxSteps := 2000000) (disch := first | with_reducible assumption | omega | (simp only [zS, zA, seval, wyb, wbd] <;> omega) | fail) only [zS, argl, insA, Go.Den.wm, wo, wu, looks, wab, wz, idOf, riA, seval, Go.Den.wh, kK, wbe, wfb, wyb, wbd, ej19, fstV, *]) | (with_reducible (first | apply z1 | apply z2 | apply z3 | apply z4) <;> intro hq <;> (try simp only [zH] at hq) <;> (try (exfalso; omega)))))
 ·rw [fstO] at h
  (repeat' (first | (simp -implicitDefEqProofs (maxSteps := 2000000) (disch := first | with_reducible assumption | omega | (simp only [zS, zA, seval, wyb, wbd] <;> omega) | fail) only [zS, argl, insA, Go.Den.wm, wo, wu, looks, wab, wz, idOf, riA, seval, Go.Den.wh, kK, wbe, wfb, wyb, wbd, ej19, fstV, *]) | (with_reducible (first | apply z1 | apply z2 | apply z3 | apply z4) <;> intro hq <;> (try simp only [zH] at hq) <;> (try (exfalso; omega)))))
theorem wcrb (l : List Int) (hl : l.length ≤ 16000000) (v : Int) : lim Try.prog cfg (.call 151 [FL l.length (ints l), .int .i64 v]) (HP []) = some (.val (.bool (l.any fun a => decide (v = a))), HP []) := by
 refine wkb hc wco (Nat.le_of_ble_eq_true rfl) (Nat.le_of_ble_eq_true rfl) ?_
 unfold wqk
 have h := ev_Index l hl v
 rw [← wrjc _ l 0]
 generalize fstV (fstF (fun a => decide (v = a)) l 0) = z at h ⊢
 (repeat' (first | (simp -implicitDefEqProofs (maxSteps := 2000000) (disch := first | with_reducible assumption | omega | (simp only [zS, zA, seval] <;> omega) | fail) only [zS, argl, insA, Go.Den.wm, wo, wu, looks, wab, wz, idOf, riA, seval, Go.Den.wh, kK, *]) | (with_reducible (first | apply z1 | apply z2 | apply z3 | apply z4) <;> intro hq <;> (try simp only [zH] at hq) <;> (try (exfalso; omega)))))
theorem ev_has1 (l : List Int) (hl : l.length ≤ 16000000) (r : Rx) : lim Try.prog cfg (.call 150 [.agg ⟨rxC r⟩, .pointer (some ⟨0, 0, none⟩)]) (HP [X [FL l.length (ints l)] 38 0 true]) = some (.val (.bool (l.any fun a => decide (r.kind = a))), HP [X [FL l.length (ints l)] 38 0 true]) := by
 refine wkb hc weeb (Nat.le_of_ble_eq_true rfl) (Nat.le_of_ble_eq_true rfl) ?_
 unfold wucb
 have h := wcrb l hl r.kind
 (repeat' (first | (simp -implicitDefEqProofs (maxSteps := 2000000) (disch := first | with_reducible assumption | omega | (simp only [zS, zA, seval, zD] <;> omega) | fail) only [zS, argl, insA, Go.Den.wm, wo, wu, looks, wab, wz, idOf, riA, seval, Go.Den.wh, kK, *, zT]) | (with_reducible (first | apply z1 | apply z2 | apply z3 | apply z4) <;> intro hq <;> (try simp only [zH] at hq) <;> (try (exfalso; omega)))))
end
end Go.Proofs.Ytjihbfdbgamcdaa
namespace Go.Proofs.Ytjihbfdbgamcdaa
set_option linter.unusedVariables false
set_option linter.unusedSimpArgs false
open Go.Den
noncomputable section
def wnj (l : List Int) (r : Rx) : Bool := l.any fun a => decide (r.kind = a)
abbrev hasFn : Value := .func (.func 150) ⟨[]⟩ ⟨[.pointer (some ⟨0, 0, none⟩)]⟩
abbrev hasB (l : List Int) : List ABlk := [X [FL l.length (ints l)] 38 0 true]
theorem hb_has1 : wuq Try.prog 150 = true := by kernel_rfl
theorem wmib {args : List Value} : dynA Try.prog hasFn args = .call 150 (args ++ [.pointer (some ⟨0, 0, none⟩)]) := by
 unfold dynA
 simp only [hb_has1, cond_true, List.nil_append]
theorem wdrb : cfg.know 150 = none := by kernel_rfl
def fstW (ks : List Int) (n : Nat) : Option Nat → Option (Out × AH)
 | none => some (.code (.exit 0) (SE (EJ n G0) [(4, JK)]), HP (hasB ks))
 | some j => some (.code .ret (SE (EJ n G0) [(4, .int .i64 j)]), HP (hasB ks))
theorem wsjc (ks : List Int) (hks : ks.length ≤ 16000000) (l : List Rx) (hl : l.length ≤ 16000000) : ∀ (k i : Nat), i + k = l.length →
  lim Try.prog cfg (.loop 162 1 (wde 0) (SE (EJ 19 G0) [(8, .int .i64 i), (7, .int .i64 l.length), (1, hasFn), (0, FL l.length (rxsC l))])) (HP (hasB ks)) = fstW ks 19 (fstF (wnj ks) (l.drop i) i) := by
 intro k
 induction k with
 | zero =>
  intro i hi
  rw [List.drop_of_length_le (by omega), fstF, fstW]
  refine web wcd ?_
  unfold woc
  (repeat' (first | (simp -implicitDefEqProofs (maxSteps := 2000000) (disch := first | with_reducible assumption | omega | (simp only [zS, zA, seval, wyb, wbd, zD] <;> omega) | fail) only [zS, argl, insA, Go.Den.wm, wo, wu, looks, wab, wz, idOf, riA, seval, Go.Den.wh, kK, wcc, wyb, wbd, ej19, *, zT]) | (with_reducible (first | apply z1 | apply z2 | apply z3 | apply z4) <;> intro hq <;> (try simp only [zH] at hq) <;> (try (exfalso; omega)))))
 | succ k ih =>
  intro i hi
  rw [wiz l (by omega), fstF]
  have h := ih (i + 1) (by omega)
  clear ih
  have h1 := ev_has1 ks hks (l.getD i Rx.zero)
  by_cases hv : wnj ks (l.getD i Rx.zero) = true
  ·rw [if_pos hv, fstW]
   unfold wnj at hv
   rw [hv] at h1
   clear h hv
   refine web wcd ?_
   unfold woc
   (repeat' (first | (simp -implicitDefEqProofs (maxSteps := 2000000) (disch := first | with_reducible assumption | omega | (simp only [zS, zA, seval, zD] <;> omega) | fail) only [zS, argl, insA, Go.Den.wm, wo, wu, looks, wab, wz, idOf, riA, seval, Go.Den.wh, kK, wcc, wmib, wdrb, *, zT]) | (with_reducible (first | apply z1 | apply z2 | apply z3 | apply z4) <;> intro hq <;> (try simp only [zH] at hq) <;> (try (exfalso; omega)))))
  ·rw [if_neg hv]
   have hv2 : (ks.any fun a => decide ((l.getD i Rx.zero).kind = a)) = false := by show wnj ks _ = false; exact Bool.eq_false_iff.2 hv
   rw [hv2] at h1
   generalize fstF (wnj ks) (l.drop (i + 1)) (i + 1) = o at h ⊢
   clear hv hv2
   cases o with
   | none =>
    rw [fstW] at h ⊢
    refine web wcd ?_
    unfold woc
    (repeat' (first | (simp -implicitDefEqProofs (maxSteps := 2000000) (disch := first | with_reducible assumption | omega | (simp only [zS, zA, seval, wyb, wbd, zD] <;> omega) | fail) only [zS, argl, insA, Go.Den.wm, wo, wu, looks, wab, wz, idOf, riA, seval, Go.Den.wh, kK, wcc, wmib, wdrb, wyb, wbd, ej19, *, zT]) | (with_reducible (first | apply z1 | apply z2 | apply z3 | apply z4) <;> intro hq <;> (try simp only [zH] at hq) <;> (try (exfalso; omega)))))
    exact h
   | some j =>
    rw [fstW] at h ⊢
    refine web wcd ?_
    unfold woc
    (repeat' (first | (simp -implicitDefEqProofs (maxSteps := 2000000) (disch := first | with_reducible assumption | omega | (simp only [zS, zA, seval, wyb, wbd, zD] <;> omega) | fail) only [zS, argl, insA, Go.Den.wm, wo, wu, looks, wab, wz, idOf, riA, seval, Go.Den.wh, kK, wcc, wmib, wdrb, wyb, wbd, ej19, *, zT]) | (with_reducible (first | apply z1 | apply z2 | apply z3 | apply z4) <;> intro hq <;> (try simp only [zH] at hq) <;> (try (exfalso; omega)))))
    exact h
def wnib (r : Rx) : Bool := !((decide (r.kind ≠ 1) && decide (r.set ≠ 0#256)) || (decide (r.kind ≠ 4) && (decide (r.mn ≠ 0) || decide (r.mx ≠ 0)))) && (decide (r.kind = 5) || (decide (r.kind = 6) || decide (r.n = 0)))
theorem wttb : [Value.int .u64 0, .int .u64 0, .int .u64 0, .int .u64 0] = setC 0#256 := rfl
theorem ev_bare (r : Rx) : lim Try.prog cfg (.call 107 [.agg ⟨rxC r⟩]) (HP []) = some (.val (.bool (wnib r)), HP []) := by
 refine wkb hc wzhb (Nat.le_of_ble_eq_true rfl) (Nat.le_of_ble_eq_true rfl) ?_
 unfold wmfb wnib
 have hz : ∀ a b, eqcV true [.int .u64, .int .u64, .int .u64, .int .u64] (.agg ⟨setC a⟩) (.agg ⟨setC b⟩) = val (.bool (decide (a ≠ b))) := weic
 (repeat' (first | (simp -implicitDefEqProofs (maxSteps := 2000000) (disch := first | with_reducible assumption | omega | (simp only [zS, zA, seval, zD] <;> omega) | fail) only [zS, argl, insA, Go.Den.wm, wo, wu, looks, wab, wz, idOf, riA, seval, Go.Den.wh, kK, wttb, wcb, wgb, *, zT]) | (with_reducible (first | apply z1 | apply z2 | apply z3 | apply z4) <;> intro hq <;> (try simp only [zH] at hq) <;> (try (exfalso; omega)))))
def repF (r : Rx) : Bool := decide (0 ≤ r.mn) && (decide (r.mn ≤ 20) && (decide (r.mx = -1) || (decide (max r.mn 1 ≤ r.mx) && decide (r.mx ≤ 20))))
theorem ev_rep (r : Rx) : lim Try.prog cfg (.call 134 [.agg ⟨rxC r⟩]) (HP []) = some (.val (.bool (repF r)), HP []) := by
 refine wkb hc wbmb (Nat.le_of_ble_eq_true rfl) (Nat.le_of_ble_eq_true rfl) ?_
 unfold wamb repF
 (repeat' (first | (simp -implicitDefEqProofs (maxSteps := 2000000) (disch := first | with_reducible assumption | omega | (simp only [zS, zA, seval, zD] <;> omega) | fail) only [zS, argl, insA, Go.Den.wm, wo, wu, looks, wab, wz, idOf, riA, seval, Go.Den.wh, kK, wcb, wgb, *, zT]) | (with_reducible (first | apply z1 | apply z2 | apply z3 | apply z4) <;> intro hq <;> (try simp only [zH] at hq) <;> (try (exfalso; omega)))))
end
end Go.Proofs.Ytjihbfdbgamcdaa
namespace Go.Proofs.Ytjihbfdbgamcdaa
set_option linter.unusedVariables false
set_option linter.unusedSimpArgs false
open Go.Den
noncomputable section
theorem wnmb (ks : List Int) (hks : ks.length ≤ 16000000) (l : List Rx) (hl : l.length ≤ 16000000) : lim Try.prog cfg (.call 162 [FL l.length (rxsC l), hasFn]) (HP (hasB ks)) = some (.val (.int .i64 (fstV (fstF (wnj ks) l 0))), HP (hasB ks)) := by
 refine wkb hc wel (Nat.le_of_ble_eq_true rfl) (Nat.le_of_ble_eq_true rfl) ?_
 unfold whi
 have h := wsjc ks hks l hl l.length 0 (by omega)
 rw [List.drop_zero, show ((0 : Nat) : Int) = 0 from rfl] at h
 generalize fstF (wnj ks) l 0 = o at h ⊢
 cases o with
 | none =>
  rw [fstW] at h
  (repeat' (first | (simp -implicitDefEqProofs (maxSteps := 2000000) (disch := first | with_reducible assumption | omega | (simp only [zS, zA, seval, wyb, wbd, zD] <;> omega) | fail) only [zS, argl, insA, Go.Den.wm, wo, wu, looks, wab, wz, idOf, riA, seval, Go.Den.wh, kK, wcc, fstV, wyb, wbd, ej19, *, zT]) | (with_reducible (first | apply z1 | apply z2 | apply z3 | apply z4) <;> intro hq <;> (try simp only [zH] at hq) <;> (try (exfalso; omega)))))
 | some j =>
  rw [fstW] at h
  (repeat' (first | (simp -implicitDefEqProofs (maxSteps := 2000000) (disch := first | with_reducible assumption | omega | (simp only [zS, zA, seval, wyb, wbd, zD] <;> omega) | fail) only [zS, argl, insA, Go.Den.wm, wo, wu, looks, wab, wz, idOf, riA, seval, Go.Den.wh, kK, wcc, fstV, wyb, wbd, ej19, *, zT]) | (with_reducible (first | apply z1 | apply z2 | apply z3 | apply z4) <;> intro hq <;> (try simp only [zH] at hq) <;> (try (exfalso; omega)))))
theorem wadb (ks : List Int) (hks : ks.length ≤ 16000000) (l : List Rx) (hl : l.length ≤ 16000000) : lim Try.prog cfg (.call 149 [FL l.length (rxsC l), hasFn]) (HP (hasB ks)) = some (.val (.bool (l.any (wnj ks))), HP (hasB ks)) := by
 refine wkb hc wik (Nat.le_of_ble_eq_true rfl) (Nat.le_of_ble_eq_true rfl) ?_
 unfold weh
 have h := wnmb ks hks l hl
 rw [← wrjc _ l 0]
 generalize fstV (fstF (wnj ks) l 0) = z at h ⊢
 (repeat' (first | (simp -implicitDefEqProofs (maxSteps := 2000000) (disch := first | with_reducible assumption | omega | (simp only [zS, zA, seval, zD] <;> omega) | fail) only [zS, argl, insA, Go.Den.wm, wo, wu, looks, wab, wz, idOf, riA, seval, Go.Den.wh, kK, *, zT]) | (with_reducible (first | apply z1 | apply z2 | apply z3 | apply z4) <;> intro hq <;> (try simp only [zH] at hq) <;> (try (exfalso; omega)))))
theorem werb (ks : List Int) (hks : ks.length ≤ 16000000) (l : List Rx) (hl : l.length ≤ 16000000) : lim Try.prog cfg (.call 133 [FL l.length (rxsC l), FL ks.length (ints ks)]) (HP []) = some (.val (.bool (l.any (wnj ks))), HP []) := by
 refine wkb hc wzlb (Nat.le_of_ble_eq_true rfl) (Nat.le_of_ble_eq_true rfl) ?_
 unfold wylb
 have h := wadb ks hks l hl
 (repeat' (first | (simp -implicitDefEqProofs (maxSteps := 2000000) (disch := first | with_reducible assumption | omega | (simp only [zS, zA, seval, zD] <;> omega) | fail) only [zS, argl, insA, Go.Den.wm, wo, wu, looks, wab, wz, idOf, riA, seval, Go.Den.wh, kK, *, zT]) | (with_reducible (first | apply z1 | apply z2 | apply z3 | apply z4) <;> intro hq <;> (try simp only [zH] at hq) <;> (try (exfalso; omega)))))
end
end Go.Proofs.Ytjihbfdbgamcdaa
namespace Go.Den
set_option linter.unusedVariables false
set_option linter.unusedSimpArgs false
noncomputable section
mutual
def wub : Rx → Nat
 | .mk _ _ _ _ _ kids => 1 + wlb kids
def wlb : List Rx → Nat
 | [] => 0
 | r :: l => wub r + wlb l
end
theorem wtjc (r : Rx) : 1 ≤ wub r := by cases r; rw [wub]; omega
theorem wbdb : ∀ (l : List Rx), l.length ≤ wlb l := by
 intro l
 induction l with
 | nil => rw [wlb]; exact Nat.le_refl _
 | cons r l ih => rw [wlb, List.length_cons]; have := wtjc r; omega
theorem wfzb (l : List Rx) (i : Nat) : wlb (l.drop i) ≤ wlb l := by
 induction l generalizing i with
 | nil => rw [List.drop_nil]; exact Nat.le_refl _
 | cons a l ih =>
  cases i with
  | zero => rw [List.drop_zero]; exact Nat.le_refl _
  | succ i => rw [List.drop_succ_cons, wlb]; have := ih i; omega
end
end Go.Den
namespace Go.Proofs.Ytjihbfdbgamcdaa
open Go.Den
noncomputable section
def wcq (r : Rx) : Bool :=
 if r.kind = 1 then decide ((r.kids.length : Int) = 0) && decide (r.set ≠ 0#256)
 else if r.kind = 2 then decide ((r.kids.length : Int) ≠ 1) && !(r.kids.any (wnj [2, 3]))
 else if r.kind = 3 then decide ((2 : Int) ≤ r.kids.length) && !(r.kids.any (wnj [3]))
 else if r.kind = 4 then decide ((r.kids.length : Int) = 1) && (r.kids.any (wnj [1, 5, 6]) && repF r)
 else if r.kind = 5 then decide ((r.kids.length : Int) = 1)
 else if r.kind = 6 then decide ((r.kids.length : Int) = 0)
 else if r.kind = 7 then decide ((r.kids.length : Int) = 0)
 else if r.kind = 8 then decide ((r.kids.length : Int) = 0)
 else false
theorem ev_has2 (a b : Int) (l : List Rx) (hl : l.length ≤ 16000000) : lim Try.prog cfg (.call 133 [FL l.length (rxsC l), FL 2 [.int .i64 a, .int .i64 b]]) (HP []) = some (.val (.bool (l.any (wnj [a, b]))), HP []) := werb [a, b] (by simp) l hl
theorem wujc (a : Int) (l : List Rx) (hl : l.length ≤ 16000000) : lim Try.prog cfg (.call 133 [FL l.length (rxsC l), FL 1 [.int .i64 a]]) (HP []) = some (.val (.bool (l.any (wnj [a]))), HP []) := werb [a] (by simp) l hl
theorem ev_has3 (a b c : Int) (l : List Rx) (hl : l.length ≤ 16000000) : lim Try.prog cfg (.call 133 [FL l.length (rxsC l), FL 3 [.int .i64 a, .int .i64 b, .int .i64 c]]) (HP []) = some (.val (.bool (l.any (wnj [a, b, c]))), HP []) := werb [a, b, c] (by simp) l hl
theorem ev_kids (r : Rx) (hl : r.kids.length ≤ 16000000) : lim Try.prog cfg (.call 108 [.agg ⟨rxC r⟩]) (HP []) = some (.val (.bool (wcq r)), HP []) := by
 refine wkb hc waib (Nat.le_of_ble_eq_true rfl) (Nat.le_of_ble_eq_true rfl) ?_
 unfold wnfb wcq
 have hz : ∀ a b, eqcV true [.int .u64, .int .u64, .int .u64, .int .u64] (.agg ⟨setC a⟩) (.agg ⟨setC b⟩) = val (.bool (decide (a ≠ b))) := weic
 have h2 := ev_has2 2 3 r.kids hl
 have h3 := wujc 3 r.kids hl
 have h4 := ev_has3 1 5 6 r.kids hl
 have h5 := ev_rep r
 generalize r.kids.any (wnj [2, 3]) = b2 at h2 ⊢
 generalize r.kids.any (wnj [3]) = b3 at h3 ⊢
 generalize r.kids.any (wnj [1, 5, 6]) = b4 at h4 ⊢
 generalize repF r = b5 at h5 ⊢
 (repeat' (first | (simp -implicitDefEqProofs (maxSteps := 2000000) (disch := first | with_reducible assumption | omega | (simp only [zS, zA, seval, zD] <;> omega) | fail) only [zS, argl, insA, Go.Den.wm, wo, wu, looks, wab, wz, idOf, riA, seval, Go.Den.wh, kK, wttb, wcb, wgb, *, zT]) | (with_reducible (first | apply z1 | apply z2 | apply z3 | apply z4) <;> intro hq <;> (try simp only [zH] at hq) <;> (try (exfalso; omega)))))
 all_goals simp_all
theorem wgzb (l : List Rx) (hl : l.length ≤ 16000000) (hn : wlb l ≤ 1000000) (hk : ∀ r ∈ l, lim Try.prog cfg (.call 88 [.agg ⟨rxC r⟩]) (HP []) = some (.val (.int .i64 (wub r)), HP [])) :
  ∀ (k i : Nat) (a : Int), i + k = l.length → 0 ≤ a → a + wlb (l.drop i) ≤ 2000000 →
  lim Try.prog cfg (.loop 88 0 (wqr 0) (SE (EJ 19 G0) [(9, .int .i64 i), (8, .int .i64 l.length), (7, FL l.length (rxsC l)), (3, .int .i64 a)])) (HP []) = some (.code (.exit 0) (SE (EJ 19 G0) [(3, .int .i64 (a + wlb (l.drop i)))]), HP []) := by
 intro k
 induction k with
 | zero =>
  intro i a hi h1 h2
  rw [List.drop_of_length_le (by omega), wlb]
  refine web wgs ?_
  unfold wrr
  clear hk
  (repeat' (first | (simp -implicitDefEqProofs (maxSteps := 2000000) (disch := first | with_reducible assumption | omega | (simp only [zS, zA, seval, zD] <;> omega) | fail) only [zS, argl, insA, Go.Den.wm, wo, wu, looks, wab, wz, idOf, riA, seval, Go.Den.wh, kK, wyr, Int.natCast_zero, Int.add_zero, *, zT]) | (with_reducible (first | apply z1 | apply z2 | apply z3 | apply z4) <;> intro hq <;> (try simp only [zH] at hq) <;> (try (exfalso; omega)))))
 | succ k ih =>
  intro i a hi h1 h2
  rw [wiz l (by omega), wlb]
  have hr := hk _ (by rw [List.getD_eq_getElem?_getD, List.getElem?_eq_getElem (show i < l.length by omega)]; exact List.getElem_mem _ : l.getD i Rx.zero ∈ l)
  have hb : wub (l.getD i Rx.zero) + wlb (l.drop (i + 1)) ≤ wlb l := by
   have := wfzb l i
   rw [wiz l (by omega), wlb] at this
   exact this
  rw [wiz l (by omega), wlb] at h2
  have h := ih (i + 1) (a + wub (l.getD i Rx.zero)) (by omega) (by omega) (by omega)
  rw [show a + ((wub (l.getD i Rx.zero) + wlb (l.drop (i + 1)) : Nat) : Int) = a + (wub (l.getD i Rx.zero) : Int) + (wlb (l.drop (i + 1)) : Int) by omega]
  refine web wgs ?_
  unfold wrr
  clear hk ih
  (repeat' (first | (simp -implicitDefEqProofs (maxSteps := 2000000) (disch := first | with_reducible assumption | omega | (simp only [zS, zA, seval, zD] <;> omega) | fail) only [zS, argl, insA, Go.Den.wm, wo, wu, looks, wab, wz, idOf, riA, seval, Go.Den.wh, kK, wyr, *, zT]) | (with_reducible (first | apply z1 | apply z2 | apply z3 | apply z4) <;> intro hq <;> (try simp only [zH] at hq) <;> (try (exfalso; omega)))))
  exact h
theorem ev_Nodes : ∀ r : Rx, wub r ≤ 1000000 → lim Try.prog cfg (.call 88 [.agg ⟨rxC r⟩]) (HP []) = some (.val (.int .i64 (wub r)), HP []) := by
 refine Rx.rec (motive_1 := fun r => wub r ≤ 1000000 → lim Try.prog cfg (.call 88 [.agg ⟨rxC r⟩]) (HP []) = some (.val (.int .i64 (wub r)), HP [])) (motive_2 := fun l => wlb l ≤ 1000000 → ∀ r ∈ l, lim Try.prog cfg (.call 88 [.agg ⟨rxC r⟩]) (HP []) = some (.val (.int .i64 (wub r)), HP [])) ?_ ?_ ?_
 ·intro k mn mx n s l ih hn
  rw [wub] at hn
  have hl := wbdb l
  have h := wgzb l (by omega) (by omega) (ih (by omega)) l.length 0 1 (by omega) (by omega) (by rw [List.drop_zero]; omega)
  rw [List.drop_zero, show ((0 : Nat) : Int) = 0 from rfl] at h
  rw [wub, show ((1 + wlb l : Nat) : Int) = 1 + (wlb l : Int) by omega]
  refine wkb hc wceb (Nat.le_of_ble_eq_true rfl) (Nat.le_of_ble_eq_true rfl) ?_
  unfold wscb
  clear ih
  (repeat' (first | (simp -implicitDefEqProofs (maxSteps := 2000000) (disch := first | with_reducible assumption | omega | (simp only [zS, zA, seval, zD] <;> omega) | fail) only [zS, argl, insA, Go.Den.wm, wo, wu, looks, wab, wz, idOf, riA, seval, Go.Den.wh, kK, wyr, *, zT]) | (with_reducible (first | apply z1 | apply z2 | apply z3 | apply z4) <;> intro hq <;> (try simp only [zH] at hq) <;> (try (exfalso; omega)))))
 ·intro _ r h; cases h
 ·intro r l h1 h2 hn x hx
  rw [wlb] at hn
  rcases List.mem_cons.1 hx with rfl | hx
  ·exact h1 (by omega)
  ·exact h2 (by omega) x hx
theorem wqfb (r : Rx) (g : Int) : lim Try.prog cfg (.call 89 [.pointer (some ⟨0, 0, none⟩), .agg ⟨rxC r⟩]) (HP [X [.bool true, .int .i64 g] 156 0 true]) = some (.val (.bool true), HP [X [.bool true, .int .i64 g] 156 0 true]) := by
 refine wkb hc wsr (Nat.le_of_ble_eq_true rfl) (Nat.le_of_ble_eq_true rfl) ?_
 unfold wgo
 (repeat' (first | (simp -implicitDefEqProofs (maxSteps := 2000000) (disch := first | with_reducible assumption | omega | (simp only [zS, zA, seval, zD] <;> omega) | fail) only [zS, argl, insA, Go.Den.wm, wo, wu, looks, wab, wz, idOf, riA, seval, Go.Den.wh, kK, wcb, wgb, *, zT]) | (with_reducible (first | apply z1 | apply z2 | apply z3 | apply z4) <;> intro hq <;> (try simp only [zH] at hq) <;> (try (exfalso; omega)))))
end
end Go.Proofs.Ytjihbfdbgamcdaa
namespace Go.Proofs.Ytjihbfdbgamcdaa
set_option linter.unusedVariables false
set_option linter.unusedSimpArgs false
open Go.Den
noncomputable section
mutual
def waj : Rx → Int → Int → Bool × Int
 | .mk k mn mx n s kids, d, g =>
  if wnib (.mk k mn mx n s kids) = true then
   if wcq (.mk k mn mx n s kids) = true then
    if k = 5 then (if n = g + 1 then (if d + 1 ≤ 6 then wwf kids (d + 1) (g + 1) else (false, g + 1)) else (false, g + 1))
    else if k = 6 then (decide (1 ≤ n) && decide (n ≤ g), g)
    else wwf kids d g
   else (false, g)
  else (false, g)
def wwf : List Rx → Int → Int → Bool × Int
 | [], _, g => (true, g)
 | r :: l, d, g => if (waj r d g).1 = true then wwf l d (waj r d g).2 else (false, (waj r d g).2)
end
theorem woib : ∀ (r : Rx) (d g : Int), g ≤ (waj r d g).2 ∧ (waj r d g).2 ≤ g + wub r := by
 refine Rx.rec (motive_1 := fun r => ∀ (d g : Int), g ≤ (waj r d g).2 ∧ (waj r d g).2 ≤ g + wub r) (motive_2 := fun l => ∀ (d g : Int), g ≤ (wwf l d g).2 ∧ (wwf l d g).2 ≤ g + wlb l) ?_ ?_ ?_
 ·intro k mn mx n s l ih d g
  rw [waj, wub]
  have h1 := ih (d + 1) (g + 1)
  have h2 := ih d g
  repeat' split
  all_goals first | (constructor <;> simp <;> omega) | omega
 ·intro d g; rw [wwf, wlb]; exact ⟨Int.le_refl _, by simp⟩
 ·intro r l h1 h2 d g
  rw [wwf, wlb]
  have h3 := h1 d g
  have h4 := h2 d (waj r d g).2
  split
  ·omega
  ·simp; omega
abbrev wkB (g : Int) : List ABlk := [X [.bool true, .int .i64 g] 156 0 true]
def wpib (w : Bool × Int) : Option (Out × AH) := if w.1 = true then some (.code (.exit 1) (SE (EJ 89 G0) [(6, JK)]), HP (wkB w.2)) else some (.code .ret (SE (EJ 89 G0) [(6, .bool false)]), HP (wkB w.2))
theorem ej89 : (EJ 89 G0).get 6 = JK := rfl
def wrfb (r : Rx) : Prop := ∀ d g : Int, 0 ≤ d → d ≤ 1000 → 0 ≤ g → g + wub r ≤ 2000000 → lim Try.prog cfg (.call 90 [.pointer (some ⟨0, 0, none⟩), .agg ⟨rxC r⟩, .int .i64 d]) (HP (wkB g)) = some (.val (.bool (waj r d g).1), HP (wkB (waj r d g).2))
theorem womb (l : List Rx) (hl : l.length ≤ 16000000) (hk : ∀ r ∈ l, wrfb r) (d : Int) (hd : 0 ≤ d) (hd2 : d ≤ 1000) :
  ∀ (k i : Nat) (g : Int), i + k = l.length → 0 ≤ g → g + wlb (l.drop i) ≤ 2000000 →
  lim Try.prog cfg (.loop 90 1 (wlk 0) (SE (EJ 89 G0) [(79, .int .i64 i), (78, .int .i64 l.length), (77, FL l.length (rxsC l)), (2, .int .i64 d), (0, .pointer (some ⟨0, 0, none⟩))])) (HP (wkB g)) = wpib (wwf (l.drop i) d g) := by
 intro k
 induction k with
 | zero =>
  intro i g hi h1 h2
  rw [List.drop_of_length_le (by omega), wwf, wpib, if_pos rfl]
  refine web woh ?_
  unfold wlh
  clear hk
  (repeat' (first | (simp -implicitDefEqProofs (maxSteps := 2000000) (disch := first | with_reducible assumption | omega | (simp only [zS, zA, seval, wyb, wbd, zD] <;> omega) | fail) only [zS, argl, insA, Go.Den.wm, wo, wu, looks, wab, wz, idOf, riA, seval, Go.Den.wh, kK, wbc, wyb, wbd, ej89, *, zT]) | (with_reducible (first | apply z1 | apply z2 | apply z3 | apply z4) <;> intro hq <;> (try simp only [zH] at hq) <;> (try (exfalso; omega)))))
 | succ k ih =>
  intro i g hi h1 h2
  rw [wiz l (by omega), wlb] at h2
  rw [wiz l (by omega), wwf]
  have hr := hk _ (by rw [List.getD_eq_getElem?_getD, List.getElem?_eq_getElem (show i < l.length by omega)]; exact List.getElem_mem _ : l.getD i Rx.zero ∈ l) d g hd hd2 h1 (by omega)
  have hw := woib (l.getD i Rx.zero) d g
  have h := ih (i + 1) (waj (l.getD i Rx.zero) d g).2 (by omega) (by omega) (by omega)
  generalize waj (l.getD i Rx.zero) d g = w at hr hw h ⊢
  obtain ⟨b, g2⟩ := w
  clear hk ih
  cases b with
  | false =>
   rw [if_neg (by simp), wpib, if_neg (by simp)]
   clear h
   refine web woh ?_
   unfold wlh
   (repeat' (first | (simp -implicitDefEqProofs (maxSteps := 2000000) (disch := first | with_reducible assumption | omega | (simp only [zS, zA, seval, zD] <;> omega) | fail) only [zS, argl, insA, Go.Den.wm, wo, wu, looks, wab, wz, idOf, riA, seval, Go.Den.wh, kK, wbc, *, zT]) | (with_reducible (first | apply z1 | apply z2 | apply z3 | apply z4) <;> intro hq <;> (try simp only [zH] at hq) <;> (try (exfalso; omega)))))
  | true =>
   rw [if_pos rfl]
   generalize wwf (l.drop (i + 1)) d (true, g2).2 = w2 at h ⊢
   obtain ⟨b2, g3⟩ := w2
   cases b2 with
   | true =>
    rw [wpib, if_pos rfl] at h ⊢
    refine web woh ?_
    unfold wlh
    (repeat' (first | (simp -implicitDefEqProofs (maxSteps := 2000000) (disch := first | with_reducible assumption | omega | (simp only [zS, zA, seval, wyb, wbd, zD] <;> omega) | fail) only [zS, argl, insA, Go.Den.wm, wo, wu, looks, wab, wz, idOf, riA, seval, Go.Den.wh, kK, wbc, wyb, wbd, ej89, *, zT]) | (with_reducible (first | apply z1 | apply z2 | apply z3 | apply z4) <;> intro hq <;> (try simp only [zH] at hq) <;> (try (exfalso; omega)))))
    exact h
   | false =>
    rw [wpib, if_neg (by simp)] at h ⊢
    refine web woh ?_
    unfold wlh
    (repeat' (first | (simp -implicitDefEqProofs (maxSteps := 2000000) (disch := first | with_reducible assumption | omega | (simp only [zS, zA, seval, wyb, wbd, zD] <;> omega) | fail) only [zS, argl, insA, Go.Den.wm, wo, wu, looks, wab, wz, idOf, riA, seval, Go.Den.wh, kK, wbc, wyb, wbd, ej89, *, zT]) | (with_reducible (first | apply z1 | apply z2 | apply z3 | apply z4) <;> intro hq <;> (try simp only [zH] at hq) <;> (try (exfalso; omega)))))
    exact h
end
end Go.Proofs.Ytjihbfdbgamcdaa
namespace Go.Proofs.Ytjihbfdbgamcdaa
set_option linter.unusedVariables false
set_option linter.unusedSimpArgs false
open Go.Den
noncomputable section
set_option maxHeartbeats 4000000 in
theorem wvjc (k mn mx n : Int) (set : BitVec 256) (kids : List Rx) (hl : kids.length ≤ 16000000) (ih : ∀ r ∈ kids, wrfb r) : wrfb (.mk k mn mx n set kids) := by
 intro d g hd hd2 hg hgn
 rw [wub] at hgn
 have hb := ev_bare (.mk k mn mx n set kids)
 have hk := ev_kids (.mk k mn mx n set kids) hl
 rw [waj]
 refine wkb hc wbv (Nat.le_of_ble_eq_true rfl) (Nat.le_of_ble_eq_true rfl) ?_
 unfold woq
 cases hbv : wnib (.mk k mn mx n set kids) with
 | false =>
  rw [if_neg (by simp)]
  rw [hbv] at hb
  clear hk ih hbv
  (repeat' (first | (simp -implicitDefEqProofs (maxSteps := 2000000) (disch := first | with_reducible assumption | omega | (simp only [zS, zA, seval, zD] <;> omega) | fail) only [zS, argl, insA, Go.Den.wm, wo, wu, looks, wab, wz, idOf, riA, seval, Go.Den.wh, kK, wbc, wcb, wgb, *, zT]) | (with_reducible (first | apply z1 | apply z2 | apply z3 | apply z4) <;> intro hq <;> (try simp only [zH] at hq) <;> (try (exfalso; omega))) | (with_reducible apply z5; (case hl => (repeat (first | exact .nil | with_reducible apply z6 | with_reducible apply z7))); (case h => kernel_rfl))))
 | true =>
 rw [if_pos rfl]
 rw [hbv] at hb
 clear hbv
 cases hkv : wcq (.mk k mn mx n set kids) with
 | false =>
  rw [if_neg (by simp)]
  rw [hkv] at hk
  clear ih hkv
  (repeat' (first | (simp -implicitDefEqProofs (maxSteps := 2000000) (disch := first | with_reducible assumption | omega | (simp only [zS, zA, seval, zD] <;> omega) | fail) only [zS, argl, insA, Go.Den.wm, wo, wu, looks, wab, wz, idOf, riA, seval, Go.Den.wh, kK, wbc, wcb, wgb, *, zT]) | (with_reducible (first | apply z1 | apply z2 | apply z3 | apply z4) <;> intro hq <;> (try simp only [zH] at hq) <;> (try (exfalso; omega))) | (with_reducible apply z5; (case hl => (repeat (first | exact .nil | with_reducible apply z6 | with_reducible apply z7))); (case h => kernel_rfl))))
 | true =>
 rw [if_pos rfl]
 rw [hkv] at hk
 by_cases h5 : k = 5
 ·subst h5
  rw [if_pos rfl]
  have hlen : kids.length = 1 := by
   have h3 : decide ((kids.length : Int) = 1) = true := hkv
   rw [decide_eq_true_eq] at h3
   omega
  have hs : slotsOf (rxsC kids) 0 9 = rxC (kids.getD 0 Rx.zero) := by
   have := wfy (l := kids) (i := 0) (by omega)
   rwa [Nat.zero_mul] at this
  have hcl : 9 ≤ (rxsC kids).length := by rw [wgz, hlen]; omega
  have hz : 0 < kids.length := by omega
  have ha := wqfb (kids.getD 0 Rx.zero) (g + 1)
  clear hkv hlen
  by_cases hn : n = g + 1
  ·rw [if_pos hn]
   by_cases hd6 : d + 1 ≤ 6
   ·rw [if_pos hd6]
    have h := womb kids hl ih (d + 1) (by omega) (by omega) kids.length 0 (g + 1) (by omega) (by omega) (by rw [List.drop_zero]; omega)
    rw [List.drop_zero, show ((0 : Nat) : Int) = 0 from rfl] at h
    generalize wwf kids (d + 1) (g + 1) = w at h ⊢
    obtain ⟨b, g2⟩ := w
    clear ih
    subst hn
    cases b with
    | true =>
     rw [wpib, if_pos rfl] at h
     (repeat' (first | (simp -implicitDefEqProofs (maxSteps := 2000000) (disch := first | with_reducible assumption | omega | (simp only [zS, zA, seval, wyb, wbd, zD] <;> omega) | fail) only [zS, argl, insA, Go.Den.wm, wo, wu, looks, wab, wz, idOf, riA, seval, Go.Den.wh, kK, wbc, wcb, wgb, wyb, wbd, ej89, *, zT]) | (with_reducible (first | apply z1 | apply z2 | apply z3 | apply z4) <;> intro hq <;> (try simp only [zH] at hq) <;> (try (exfalso; omega))) | (with_reducible apply z5; (case hl => (repeat (first | exact .nil | with_reducible apply z6 | with_reducible apply z7))); (case h => kernel_rfl))))
    | false =>
     rw [wpib, if_neg (by simp)] at h
     (repeat' (first | (simp -implicitDefEqProofs (maxSteps := 2000000) (disch := first | with_reducible assumption | omega | (simp only [zS, zA, seval, wyb, wbd, zD] <;> omega) | fail) only [zS, argl, insA, Go.Den.wm, wo, wu, looks, wab, wz, idOf, riA, seval, Go.Den.wh, kK, wbc, wcb, wgb, wyb, wbd, ej89, *, zT]) | (with_reducible (first | apply z1 | apply z2 | apply z3 | apply z4) <;> intro hq <;> (try simp only [zH] at hq) <;> (try (exfalso; omega))) | (with_reducible apply z5; (case hl => (repeat (first | exact .nil | with_reducible apply z6 | with_reducible apply z7))); (case h => kernel_rfl))))
   ·rw [if_neg hd6]
    clear ih
    subst hn
    (repeat' (first | (simp -implicitDefEqProofs (maxSteps := 2000000) (disch := first | with_reducible assumption | omega | (simp only [zS, zA, seval, zD] <;> omega) | fail) only [zS, argl, insA, Go.Den.wm, wo, wu, looks, wab, wz, idOf, riA, seval, Go.Den.wh, kK, wbc, wcb, wgb, *, zT]) | (with_reducible (first | apply z1 | apply z2 | apply z3 | apply z4) <;> intro hq <;> (try simp only [zH] at hq) <;> (try (exfalso; omega))) | (with_reducible apply z5; (case hl => (repeat (first | exact .nil | with_reducible apply z6 | with_reducible apply z7))); (case h => kernel_rfl))))
  ·rw [if_neg hn]
   clear ih
   (repeat' (first | (simp -implicitDefEqProofs (maxSteps := 2000000) (disch := first | with_reducible assumption | omega | (simp only [zS, zA, seval, zD] <;> omega) | fail) only [zS, argl, insA, Go.Den.wm, wo, wu, looks, wab, wz, idOf, riA, seval, Go.Den.wh, kK, wbc, wcb, wgb, *, zT]) | (with_reducible (first | apply z1 | apply z2 | apply z3 | apply z4) <;> intro hq <;> (try simp only [zH] at hq) <;> (try (exfalso; omega))) | (with_reducible apply z5; (case hl => (repeat (first | exact .nil | with_reducible apply z6 | with_reducible apply z7))); (case h => kernel_rfl))))
 rw [if_neg h5]
 clear hkv
 by_cases h6 : k = 6
 ·subst h6
  rw [if_pos rfl]
  clear ih
  (repeat' (first | (simp -implicitDefEqProofs (maxSteps := 2000000) (disch := first | with_reducible assumption | omega | (simp only [zS, zA, seval, zD] <;> omega) | fail) only [zS, argl, insA, Go.Den.wm, wo, wu, looks, wab, wz, idOf, riA, seval, Go.Den.wh, kK, wbc, wcb, wgb, *, zT]) | (with_reducible (first | apply z1 | apply z2 | apply z3 | apply z4) <;> intro hq <;> (try simp only [zH] at hq) <;> (try (exfalso; omega))) | (with_reducible apply z5; (case hl => (repeat (first | exact .nil | with_reducible apply z6 | with_reducible apply z7))); (case h => kernel_rfl))))
 rw [if_neg h6]
 have h := womb kids hl ih d (by omega) (by omega) kids.length 0 g (by omega) (by omega) (by rw [List.drop_zero]; omega)
 rw [List.drop_zero, show ((0 : Nat) : Int) = 0 from rfl] at h
 generalize wwf kids d g = w at h ⊢
 obtain ⟨b, g2⟩ := w
 clear ih
 cases b with
 | true =>
  rw [wpib, if_pos rfl] at h
  (repeat' (first | (simp -implicitDefEqProofs (maxSteps := 2000000) (disch := first | with_reducible assumption | omega | (simp only [zS, zA, seval, wyb, wbd, zD] <;> omega) | fail) only [zS, argl, insA, Go.Den.wm, wo, wu, looks, wab, wz, idOf, riA, seval, Go.Den.wh, kK, wbc, wcb, wgb, wyb, wbd, ej89, *, zT]) | (with_reducible (first | apply z1 | apply z2 | apply z3 | apply z4) <;> intro hq <;> (try simp only [zH] at hq) <;> (try (exfalso; omega))) | (with_reducible apply z5; (case hl => (repeat (first | exact .nil | with_reducible apply z6 | with_reducible apply z7))); (case h => kernel_rfl))))
 | false =>
  rw [wpib, if_neg (by simp)] at h
  (repeat' (first | (simp -implicitDefEqProofs (maxSteps := 2000000) (disch := first | with_reducible assumption | omega | (simp only [zS, zA, seval, wyb, wbd, zD] <;> omega) | fail) only [zS, argl, insA, Go.Den.wm, wo, wu, looks, wab, wz, idOf, riA, seval, Go.Den.wh, kK, wbc, wcb, wgb, wyb, wbd, ej89, *, zT]) | (with_reducible (first | apply z1 | apply z2 | apply z3 | apply z4) <;> intro hq <;> (try simp only [zH] at hq) <;> (try (exfalso; omega))) | (with_reducible apply z5; (case hl => (repeat (first | exact .nil | with_reducible apply z6 | with_reducible apply z7))); (case h => kernel_rfl))))
theorem ev_walk : ∀ r : Rx, wub r ≤ 1000000 → wrfb r := by
 refine Rx.rec (motive_1 := fun r => wub r ≤ 1000000 → wrfb r) (motive_2 := fun l => wlb l ≤ 1000000 → ∀ r ∈ l, wrfb r) ?_ ?_ ?_
 ·intro k mn mx n s l ih hn
  rw [wub] at hn
  have hl := wbdb l
  exact wvjc k mn mx n s l (by omega) (ih (by omega))
 ·intro _ r h; cases h
 ·intro r l h1 h2 hn x hx
  rw [wlb] at hn
  rcases List.mem_cons.1 hx with rfl | hx
  ·exact h1 (by omega)
  ·exact h2 (by omega) x hx
def wep (r : Rx) : Bool := decide (wub r ≤ 40) && ((waj r 0 0).1 && decide ((waj r 0 0).2 ≤ 3))
theorem wutb (r : Rx) (hn : wub r ≤ 1000000) : lim Try.prog cfg (.call 63 [.agg ⟨rxC r⟩, .bool true]) (HP []) = some (.val (.bool (wep r)), HP []) := by
 have h1 := ev_Nodes r hn
 have h2 := wqfb r 0
 have h3 := ev_walk r hn 0 0 (by omega) (by omega) (by omega) (by omega)
 unfold wep
 generalize waj r 0 0 = w at h3 ⊢
 obtain ⟨b, g⟩ := w
 refine wkb hc wbeb (Nat.le_of_ble_eq_true rfl) (Nat.le_of_ble_eq_true rfl) ?_
 unfold wrcb
 by_cases hq : wub r ≤ 40
 ·have hq2 : (wub r : Int) ≤ 40 := by omega
  rw [decide_eq_true hq]
  cases b with
  | false => (repeat' (first | (simp -implicitDefEqProofs (maxSteps := 2000000) (disch := first | with_reducible assumption | omega | (simp only [zS, zA, seval, zD] <;> omega) | fail) only [zS, argl, insA, Go.Den.wm, wo, wu, looks, wab, wz, idOf, riA, seval, Go.Den.wh, kK, wcb, wgb, *, zT]) | (with_reducible (first | apply z1 | apply z2 | apply z3 | apply z4) <;> intro hq <;> (try simp only [zH] at hq) <;> (try (exfalso; omega))))); all_goals trace_state
  | true => (repeat' (first | (simp -implicitDefEqProofs (maxSteps := 2000000) (disch := first | with_reducible assumption | omega | (simp only [zS, zA, seval, zD] <;> omega) | fail) only [zS, argl, insA, Go.Den.wm, wo, wu, looks, wab, wz, idOf, riA, seval, Go.Den.wh, kK, wcb, wgb, *, zT]) | (with_reducible (first | apply z1 | apply z2 | apply z3 | apply z4) <;> intro hq <;> (try simp only [zH] at hq) <;> (try (exfalso; omega))))); all_goals trace_state
 ·have hq2 : ¬ (wub r : Int) ≤ 40 := by omega
  rw [decide_eq_false hq]
  (repeat' (first | (simp -implicitDefEqProofs (maxSteps := 2000000) (disch := first | with_reducible assumption | omega | (simp only [zS, zA, seval, zD] <;> omega) | fail) only [zS, argl, insA, Go.Den.wm, wo, wu, looks, wab, wz, idOf, riA, seval, Go.Den.wh, kK, wcb, wgb, *, zT]) | (with_reducible (first | apply z1 | apply z2 | apply z3 | apply z4) <;> intro hq <;> (try simp only [zH] at hq) <;> (try (exfalso; omega)))))
end
end Go.Proofs.Ytjihbfdbgamcdaa
namespace Go.Proofs.Ytjihbfdbgamcdaa
set_option linter.unusedVariables false
set_option linter.unusedSimpArgs false
open Go.Den
noncomputable section
theorem wwjc {k mn mx n : Int} {s : BitVec 256} {l : List Rx} (h : wcq (.mk k mn mx n s l) = true) :
  (k = 5 → l ≠ []) ∧ (k = 4 → l ≠ [] ∧ 0 ≤ mn ∧ mn ≤ 20 ∧ -1 ≤ mx ∧ mx ≤ 20) := by
 constructor
 ·intro h5; subst h5
  have h3 : decide ((l.length : Int) = 1) = true := h
  rw [decide_eq_true_eq] at h3
  intro he; subst he; simp at h3
 ·intro h4; subst h4
  have h3 : (decide ((l.length : Int) = 1) && (l.any (wnj [1, 5, 6]) && repF (.mk 4 mn mx n s l))) = true := h
  rw [Bool.and_eq_true, Bool.and_eq_true, decide_eq_true_eq] at h3
  have h5 : (decide (0 ≤ mn) && (decide (mn ≤ 20) && (decide (mx = -1) || (decide (max mn 1 ≤ mx) && decide (mx ≤ 20))))) = true := h3.2.2
  simp only [Bool.and_eq_true, Bool.or_eq_true, decide_eq_true_eq] at h5
  refine ⟨fun he => by subst he; simp at h3, h5.1, h5.2.1, ?_, ?_⟩ <;> omega
theorem walk_ok : ∀ (r : Rx) (d g : Int), 0 ≤ g → (waj r d g).1 = true → (waj r d g).2 ≤ 3 → okR r = true := by
 refine Rx.rec (motive_1 := fun r => ∀ (d g : Int), 0 ≤ g → (waj r d g).1 = true → (waj r d g).2 ≤ 3 → okR r = true) (motive_2 := fun l => ∀ (d g : Int), 0 ≤ g → (wwf l d g).1 = true → (wwf l d g).2 ≤ 3 → okRs l = true) ?_ ?_ ?_
 ·intro k mn mx n s l ih d g hg h1 h2
  have hle : ∀ d g, g ≤ (wwf l d g).2 := by
   clear ih h1 h2 hg
   induction l with
   | nil => intro d g; rw [wwf]; exact Int.le_refl _
   | cons a l ih =>
    intro d g
    rw [wwf]
    have := (woib a d g).1
    split
    ·have := ih d (waj a d g).2; omega
    ·exact this
  rw [waj] at h1 h2
  rw [okR, Bool.and_eq_true]
  by_cases hb : wnib (.mk k mn mx n s l) = true
  ·rw [if_pos hb] at h1 h2
   by_cases hk : wcq (.mk k mn mx n s l) = true
   ·rw [if_pos hk] at h1 h2
    have ⟨k5, k4⟩ := wwjc hk
    by_cases h5 : k = 5
    ·rw [if_pos h5] at h1 h2
     rw [if_pos h5]
     by_cases hn : n = g + 1
     ·rw [if_pos hn] at h1 h2
      by_cases hd : d + 1 ≤ 6
      ·rw [if_pos hd] at h1 h2
       have := hle (d + 1) (g + 1)
       refine ⟨?_, ih _ _ (by omega) h1 h2⟩
       simp only [Bool.and_eq_true, decide_eq_true_eq]
       exact ⟨k5 h5, by omega, by omega⟩
      ·rw [if_neg hd] at h1; cases h1
     ·rw [if_neg hn] at h1; cases h1
    ·rw [if_neg h5] at h1 h2 ⊢
     by_cases h6 : k = 6
     ·rw [if_pos h6] at h1 h2
      rw [if_neg (by omega), if_pos h6]
      simp only [Bool.and_eq_true, decide_eq_true_eq] at h1 ⊢
      have hl0 : l = [] := by
       subst h6
       have h3 : decide ((l.length : Int) = 0) = true := hk
       rw [decide_eq_true_eq] at h3
       exact List.eq_nil_of_length_eq_zero (by omega)
      subst hl0
      exact ⟨⟨h1.1, by simp only at h2; omega⟩, by rw [okRs]⟩
     ·rw [if_neg h6] at h1 h2 ⊢
      refine ⟨?_, ih _ _ hg h1 h2⟩
      by_cases h4 : k = 4
      ·rw [if_pos h4]
       simp only [Bool.and_eq_true, decide_eq_true_eq]
       exact k4 h4
      ·rw [if_neg h4]
   ·rw [if_neg hk] at h1; cases h1
  ·rw [if_neg hb] at h1; cases h1
 ·intro _ _ _ _ _; rw [okRs]
 ·intro r l h1 h2 d g hg h3 h4
  rw [wwf] at h3 h4
  have hw := woib r d g
  by_cases hr : (waj r d g).1 = true
  ·rw [if_pos hr] at h3 h4
   have hle : ∀ (l : List Rx) (d g : Int), g ≤ (wwf l d g).2 := by
    intro l
    induction l with
    | nil => intro d g; rw [wwf]; exact Int.le_refl _
    | cons a l ih =>
     intro d g
     rw [wwf]
     have := (woib a d g).1
     split
     ·have := ih d (waj a d g).2; omega
     ·exact this
   have := hle l d (waj r d g).2
   rw [okRs, Bool.and_eq_true]
   exact ⟨h1 d g hg hr (by omega), h2 d _ (by omega) h3 h4⟩
  ·rw [if_neg hr] at h3; cases h3
theorem wqib {r : Rx} (h : wep r = true) : okR r = true := by
 rw [wep, Bool.and_eq_true, Bool.and_eq_true, decide_eq_true_eq, decide_eq_true_eq] at h
 exact walk_ok r 0 0 (Int.le_refl _) h.2.1 h.2.2
theorem ev_ways (s : List UInt8) (bol : Bool) (hs : s.length ≤ 12) : ∀ r : Rx, wub r ≤ 1000000 → okR r = true → wpjc s bol r := by
 refine Rx.rec (motive_1 := fun r => wub r ≤ 1000000 → okR r = true → wpjc s bol r) (motive_2 := fun l => wlb l ≤ 1000000 → okRs l = true → wmmb s bol l) ?_ ?_ ?_
 ·intro k mn mx n set l ih hn hok
  rw [wub] at hn
  have hl := wbdb l
  refine wqjc s bol hs k mn mx n set l (by omega) hok (ih (by omega) ?_)
  rw [okR, Bool.and_eq_true] at hok
  exact hok.2
 ·intro _ _ r h; cases h
 ·intro r l h1 h2 hn hok x hx
  rw [wlb] at hn
  rw [okRs, Bool.and_eq_true] at hok
  rcases List.mem_cons.1 hx with rfl | hx
  ·intro y hy
   exact ⟨wwu (s := s) rfl (bol := bol) _ hok.1 y hy, h1 (by omega) hok.1 y hy⟩
  ·exact h2 (by omega) hok.2 x hx
theorem wxjc {len : Nat} {a : Int} (h1 : 0 ≤ a) (h2 : a ≤ len) : GdS len (a, wrv) := by
 refine ⟨h1, h2, rfl, rfl, fun g g1 g3 => .inl ?_⟩
 rcases (show g = 1 ∨ g = 2 ∨ g = 3 by omega) with rfl | rfl | rfl <;> exact ⟨rfl, rfl⟩
def wfk (r : Rx) (s : List UInt8) (bol : Bool) (a : Int) : List St := if wep r = true ∧ 0 ≤ a ∧ a ≤ s.length then wcg s bol r (a, wrv) else []
theorem whzb {r : Rx} {s : List UInt8} {bol : Bool} {a : Int} : RwS s.length a (wfk r s bol a) := by
 unfold wfk
 split
 ·rename_i h
  exact wwu (s := s) rfl (bol := bol) r (wqib h.1) (a, wrv) (wxjc h.2.1 h.2.2)
 ·exact .nil
theorem wrib (r : Rx) (hn : wub r ≤ 1000000) (s : List UInt8) (hs : s.length ≤ 12) (bol : Bool) (a : Int) : lim Try.prog cfg (.call 30 [.agg ⟨rxC r⟩, str s, .bool bol, .int .i64 a]) (HP []) = some (.val (FL (wfk r s bol a).length (stsC (wfk r s bol a))), HP []) := by
 have h := wutb r hn
 refine wkb hc wpv (Nat.le_of_ble_eq_true rfl) (Nat.le_of_ble_eq_true rfl) ?_
 unfold wlw wfk
 have h0 := ev_None
 cases hr : wep r with
 | false =>
  rw [if_neg (by simp)]
  rw [hr] at h
  clear hr h0
  (repeat' (first | (simp -implicitDefEqProofs (maxSteps := 2000000) (disch := first | with_reducible assumption | omega | (simp only [zS, zA, seval, zD] <;> omega) | fail) only [zS, argl, insA, Go.Den.wm, wo, wu, looks, wab, wz, idOf, riA, seval, Go.Den.wh, kK, wcb, wgb, *, zT]) | (with_reducible (first | apply z1 | apply z2 | apply z3 | apply z4) <;> intro hq <;> (try simp only [zH] at hq) <;> (try (exfalso; omega))) | (with_reducible apply z5; (case hl => (repeat (first | exact .nil | with_reducible apply z6 | with_reducible apply z7))); (case h => kernel_rfl))))
 | true =>
  rw [hr] at h
  by_cases h1 : 0 ≤ a
  ·by_cases h2 : a ≤ s.length
   ·rw [if_pos ⟨rfl, h1, h2⟩]
    have hw := ev_ways s bol hs r hn (wqib hr) (a, wrv) (wxjc h1 h2)
    rw [← st_fold] at hw
    clear hr
    (repeat' (first | (simp -implicitDefEqProofs (maxSteps := 2000000) (disch := first | with_reducible assumption | omega | (simp only [zS, zA, seval, zD] <;> omega) | fail) only [zS, argl, insA, Go.Den.wm, wo, wu, looks, wab, wz, idOf, riA, seval, Go.Den.wh, kK, wcb, wgb, *, zT]) | (with_reducible (first | apply z1 | apply z2 | apply z3 | apply z4) <;> intro hq <;> (try simp only [zH] at hq) <;> (try (exfalso; omega))) | (with_reducible apply z5; (case hl => (repeat (first | exact .nil | with_reducible apply z6 | with_reducible apply z7))); (case h => kernel_rfl))))
   ·rw [if_neg (fun h => h2 h.2.2)]
    clear hr h0
    (repeat' (first | (simp -implicitDefEqProofs (maxSteps := 2000000) (disch := first | with_reducible assumption | omega | (simp only [zS, zA, seval, zD] <;> omega) | fail) only [zS, argl, insA, Go.Den.wm, wo, wu, looks, wab, wz, idOf, riA, seval, Go.Den.wh, kK, wcb, wgb, *, zT]) | (with_reducible (first | apply z1 | apply z2 | apply z3 | apply z4) <;> intro hq <;> (try simp only [zH] at hq) <;> (try (exfalso; omega))) | (with_reducible apply z5; (case hl => (repeat (first | exact .nil | with_reducible apply z6 | with_reducible apply z7))); (case h => kernel_rfl))))
  ·rw [if_neg (fun h => h1 h.2.1)]
   clear hr h0
   (repeat' (first | (simp -implicitDefEqProofs (maxSteps := 2000000) (disch := first | with_reducible assumption | omega | (simp only [zS, zA, seval, zD] <;> omega) | fail) only [zS, argl, insA, Go.Den.wm, wo, wu, looks, wab, wz, idOf, riA, seval, Go.Den.wh, kK, wcb, wgb, *, zT]) | (with_reducible (first | apply z1 | apply z2 | apply z3 | apply z4) <;> intro hq <;> (try simp only [zH] at hq) <;> (try (exfalso; omega))) | (with_reducible apply z5; (case hl => (repeat (first | exact .nil | with_reducible apply z6 | with_reducible apply z7))); (case h => kernel_rfl))))
end
end Go.Proofs.Ytjihbfdbgamcdaa
namespace Go.Proofs.Ytjihbfdbgamcdaa
set_option linter.unusedVariables false
set_option linter.unusedSimpArgs false
open Go.Den
noncomputable section
def bestF : List St → Option St → Option St
 | [], b => b
 | x :: l, none => bestF l (some x)
 | x :: l, some b => bestF l (if x.1 > b.1 then some x else some b)
end
end Go.Proofs.Ytjihbfdbgamcdaa
namespace Go.Proofs.Ytjihbfdbgamcdaa
set_option linter.unusedVariables false
set_option linter.unusedSimpArgs false
open Go.Den
noncomputable section
def firstF (r : Rx) (s : List UInt8) : Nat → Int → Option Mt
 | 0, _ => none
 | k + 1, a => match bestF (wfk r s true a) none with
  | some b => some ((b.2.put 0 a).put 1 b.1)
  | none => firstF r s k (a + 1)
def firstR (r : Rx) (s : List UInt8) (a : Int) : Option Mt := if wep r = true ∧ 0 ≤ a ∧ a ≤ s.length then firstF r s (s.length + 1 - a).toNat a else none
end
end Go.Proofs.Ytjihbfdbgamcdaa
namespace Go.Proofs.Ytjihbfdbgamcdaa
set_option linter.unusedVariables false
set_option linter.unusedSimpArgs false
open Go.Den
noncomputable section
end
end Go.Proofs.Ytjihbfdbgamcdaa
namespace Go.Proofs.Ytjihbfdbgamcdaa
set_option linter.unusedVariables false
set_option linter.unusedSimpArgs false
open Go.Den
noncomputable section
end
end Go.Proofs.Ytjihbfdbgamcdaa
namespace Go.Den
noncomputable section
section
variable {len : Nat} {s : List UInt8} {bol : Bool} {Q : St → Prop}
theorem wvtb {α : Type} (f : α → List St) : ∀ (l : List α), (∀ z ∈ l, ∀ y ∈ f z, Q y) → ∀ out : List St, (∀ y ∈ out, Q y) → ∀ y ∈ l.foldl (fun out z => addF out (f z)) out, Q y := by
 intro l
 induction l with
 | nil => intro _ out h; exact h
 | cons z l ih =>
  intro hf out h
  refine ih (fun z' hz' => hf z' (List.mem_cons_of_mem _ hz')) _ ?_
  intro y hy
  rcases (wvu _ _).1 hy with h1 | h1
  ·exact h y h1
  ·exact hf z (List.mem_cons_self ..) y h1
theorem inv_on {w : St → List St} {mn mx : Int} (hw : ∀ x, GdS len x → Q x → ∀ y ∈ w x, GdS len y ∧ Q y) : ∀ (k : Nat) (n : Int) (x : St) (a : List (Int × St) × List St), GdS len x → Q x → (∀ y ∈ a.2, Q y) → ∀ y ∈ (onF w mn mx k n x a).2, Q y := by
 intro k
 induction k with
 | zero => intro n x a _ _ h; exact h
 | succ k ih =>
  intro n x a hx hxq h
  have hf : ∀ (l : List St), (∀ y ∈ l, GdS len y ∧ Q y) → ∀ b : List (Int × St) × List St, (∀ y ∈ b.2, Q y) → ∀ y ∈ (l.foldl (fun b y => if y.1 ≠ x.1 ∨ n < mn then onF w mn mx k (n + 1) y b else b) b).2, Q y := by
   intro l
   induction l with
   | nil => intro _ b hb; exact hb
   | cons y l ih2 =>
    intro hl b hb
    have hy := hl y (List.mem_cons_self ..)
    refine ih2 (fun z hz => hl z (List.mem_cons_of_mem _ hz)) _ ?_
    show ∀ z ∈ (if y.1 ≠ x.1 ∨ n < mn then onF w mn mx k (n + 1) y b else b).2, Q z
    split
    ·exact ih _ _ _ hy.1 hy.2 hb
    ·exact hb
  unfold onF
  split
  ·exact h
  ·simp only
   have hb : ∀ y ∈ (if mx < 0 ∨ n < mx then (w x).foldl (fun b y => if y.1 ≠ x.1 ∨ n < mn then onF w mn mx k (n + 1) y b else b) (a.1 ++ [keyF mn mx n x], a.2) else (a.1 ++ [keyF mn mx n x], a.2)).2, Q y := by
    split
    ·exact hf (w x) (hw x hx hxq) _ h
    ·exact h
   split
   ·intro y hy
    rcases (wvu _ _).1 hy with h1 | h1
    ·exact hb y h1
    ·rw [List.mem_singleton] at h1; subst h1; exact hxq
   ·exact hb
theorem ways_inv (hs : s.length = len) (hmove : ∀ (x : St) (a : Int), Q x → x.1 ≤ a → Q (a, x.2)) (hgroup : ∀ (x y : St) (n : Int), Q x → Q y → x.1 ≤ y.1 → 1 ≤ n → n ≤ 3 → Q (y.1, (y.2.put (n.toNat * 2) x.1).put (n.toNat * 2 + 1) y.1)) :
  ∀ (r : Rx), okR r = true → ∀ x, GdS len x → Q x → ∀ y ∈ wcg s bol r x, Q y := by
 refine Rx.rec (motive_1 := fun r => okR r = true → ∀ x, GdS len x → Q x → ∀ y ∈ wcg s bol r x, Q y)
  (motive_2 := fun kids => okRs kids = true → (∀ r ∈ kids, okR r = true ∧ ∀ x, GdS len x → Q x → ∀ y ∈ wcg s bol r x, Q y)) ?_ ?_ ?_
 ·intro k mn mx n set kids ih hok x hx hq
  have hrow := wwu (s := s) hs (bol := bol) _ hok x hx
  rw [okR, Bool.and_eq_true] at hok
  have hk := ih hok.2
  have hkq : ∀ r ∈ kids, ∀ x, GdS len x → Q x → ∀ y ∈ wcg s bol r x, GdS len y ∧ Q y ∧ x.1 ≤ y.1 := by
   intro r hr x hx hq y hy
   have h1 := (wwu (s := s) hs (bol := bol) r (hk r hr).1 x hx).good y hy
   exact ⟨h1.1, (hk r hr).2 x hx hq y hy, h1.2⟩
  have kid : kids ≠ [] → ∀ x, GdS len x → Q x → ∀ y ∈ kidF s bol kids x, GdS len y ∧ Q y ∧ x.1 ≤ y.1 := by
   intro hne y hy
   cases kids with
   | nil => exact absurd rfl hne
   | cons r rs => rw [kidF]; exact hkq r (List.mem_cons_self ..) y hy
  clear hrow
  rw [wcg]
  split
  ·split
   ·intro y hy; rw [List.mem_singleton] at hy; subst hy; exact hmove x _ hq (by omega)
   ·intro y hy; cases hy
  split
  ·split
   ·intro y hy; rw [List.mem_singleton] at hy; subst hy; exact hq
   ·intro y hy; cases hy
  split
  ·split
   ·intro y hy; rw [List.mem_singleton] at hy; subst hy; exact hq
   ·intro y hy; cases hy
  split
  ·rename_i h6
   have h := hok.1
   rw [if_neg (by omega), if_neg (by omega), if_pos h6] at h
   simp only [Bool.and_eq_true, decide_eq_true_eq] at h
   intro y hy
   have hb := (wotb hs h.1 h.2 hx (n := n)).good y hy
   unfold wzqb at hy
   split at hy
   ·cases hy
   split at hy
   ·cases hy
   split at hy
   ·cases hy
   rw [List.mem_singleton] at hy
   subst hy
   exact hmove x _ hq hb.2
  split
  ·rename_i h5
   have h := hok.1
   rw [if_pos h5] at h
   simp only [Bool.and_eq_true, decide_eq_true_eq] at h
   refine wvtb (fun y : St => [(y.1, (y.2.put (n.toNat * 2) x.1).put (n.toNat * 2 + 1) y.1)]) _ (fun z hz y hy => ?_) _ (fun y hy => by cases hy)
   rw [List.mem_singleton] at hy
   subst hy
   have hz := kid h.1 x hx hq z hz
   exact hgroup x z n hq hz.2.1 hz.2.2 h.2.1 h.2.2
  split
  ·have alt : ∀ (l : List Rx), (∀ r ∈ l, ∀ x, GdS len x → Q x → ∀ y ∈ wcg s bol r x, GdS len y ∧ Q y ∧ x.1 ≤ y.1) → ∀ out : List St, (∀ y ∈ out, Q y) → ∀ y ∈ altF s bol l x out, Q y := by
    intro l
    induction l with
    | nil => intro _ out h; rw [altF]; exact h
    | cons r l ih =>
     intro hl out h
     rw [altF]
     refine ih (fun r hr => hl r (List.mem_cons_of_mem _ hr)) _ ?_
     intro y hy
     rcases (wvu _ _).1 hy with h1 | h1
     ·exact h y h1
     ·exact (hl r (List.mem_cons_self ..) x hx hq y h1).2.1
   exact alt kids hkq [] (fun y hy => by cases hy)
  split
  ·have cat : ∀ (l : List Rx), (∀ r ∈ l, ∀ x, GdS len x → Q x → ∀ y ∈ wcg s bol r x, GdS len y ∧ Q y ∧ x.1 ≤ y.1) → ∀ out : List St, (∀ y ∈ out, GdS len y ∧ Q y) → ∀ y ∈ catF s bol l out, Q y := by
    intro l
    induction l with
    | nil => intro _ out h; rw [catF]; exact fun y hy => (h y hy).2
    | cons r l ih =>
     intro hl out h
     rw [catF]
     refine ih (fun r hr => hl r (List.mem_cons_of_mem _ hr)) _ ?_
     refine wvtb (Q := fun y => GdS len y ∧ Q y) (fun y => wcg s bol r y) _ (fun z hz y hy => ?_) _ (fun y hy => by cases hy)
     have h1 := h z hz
     have h2 := hl r (List.mem_cons_self ..) z h1.1 h1.2 y hy
     exact ⟨h2.1, h2.2.1⟩
   exact cat kids hkq [x] (fun y hy => by rw [List.mem_singleton] at hy; subst hy; exact ⟨hx, hq⟩)
  split
  ·rename_i h4
   have h := hok.1
   rw [if_neg (by omega), if_pos h4] at h
   simp only [Bool.and_eq_true, decide_eq_true_eq] at h
   exact inv_on (fun y hy hyq z hz => by have := kid h.1 y hy hyq z hz; exact ⟨this.1, this.2.1⟩) 100 0 x _ hx hq (fun y hy => by cases hy)
  ·intro y hy; cases hy
 ·intro _ r hr; cases hr
 ·intro r rs ih1 ih2 hok
  rw [okRs, Bool.and_eq_true] at hok
  intro r' hr'
  rcases List.mem_cons.1 hr' with rfl | h
  ·exact ⟨hok.1, ih1 hok.1⟩
  ·exact ih2 hok.2 r' h
end
end
end Go.Den
namespace Go.Proofs.Ytjihbfdbgamcdaa
open Go.Den
noncomputable section
def SpOk (m : Mt) : Prop := ∀ g : Nat, 1 ≤ g → g ≤ 3 → 0 ≤ m.at (g * 2) → m.at 0 ≤ m.at (g * 2) ∧ m.at (g * 2 + 1) ≤ m.at 1
def BehF (r : Rx) (s : List UInt8) (p m : Mt) : Prop :=
 p.at 1 ≤ m.at 0 ∧ ¬ (m.at 0 = m.at 1 ∧ m.at 0 = p.at 1) ∧ ∃ x, firstR r s (p.at 1) = some x ∧ 0 ≤ x.at 0 ∧ x.at 0 ≤ m.at 0 ∧ (x.at 0 = m.at 0 ∨ x.at 0 = x.at 1)
structure MtOk (r : Rx) (s : List UInt8) (prev : Option Mt) (m : Mt) : Prop where
 lo : 0 ≤ m.at 0
 le : m.at 0 ≤ m.at 1
 hi : m.at 1 ≤ s.length
 sp : SpOk m
 fst : prev = none → firstR r s 0 = some m
 beh : ∀ p, prev = some p → BehF r s p m
end
end Go.Proofs.Ytjihbfdbgamcdaa
namespace Go.Proofs.Ytjihbfdbgamcdaa
set_option linter.unusedVariables false
set_option linter.unusedSimpArgs false
open Go.Den
noncomputable section
end
end Go.Proofs.Ytjihbfdbgamcdaa
namespace Go.Proofs.Ytjihbfdbgamcdaa
set_option linter.unusedVariables false
set_option linter.unusedSimpArgs false
open Go.Den
noncomputable section
end
end Go.Proofs.Ytjihbfdbgamcdaa
namespace Go.Proofs.Ytjihbfdbgamcdaa
set_option linter.unusedVariables false
set_option linter.unusedSimpArgs false
open Go.Den
noncomputable section
def elems1 : Option ABlk → Option (List Value)
 | some (.cells b) => (match (bif rdOk b 0 1 then some b else none) with
  | some b => some (slotsOf b.cells 0 1)
  | none => none)
 | _ => none
def b2s1 (o : Option ABlk) : ARes := match elems1 o with
 | some l => bif l.all isU8 then val (.string ⟨(l.map toU8).toArray⟩) else .none
 | none => .none
theorem b2s_HP {h : List ABlk} (hh : h.length ≤ 1099511627774) {i c : Nat} : b2sR (HP h) (.slice (some ⟨i, 0, none⟩) 1 c) = b2s1 h[i]? := by
 have h2 : wbl (HP h) 1 1 (.slice (some ⟨i, 0, none⟩) 1 c) = elems1 h[i]? := by
  show (match wzi (HP h) ⟨i, 0, none⟩ 1 with
   | some b => some (slotsOf b.cells 0 1)
   | none => none) = _
  unfold wzi
  rw [wyg h hh]
  cases h[i]? with
  | none => rfl
  | some b => cases b <;> rfl
 show (match wbl (HP h) 1 1 (.slice (some ⟨i, 0, none⟩) 1 c) with
  | some l => bif l.all isU8 then val (.string ⟨(l.map toU8).toArray⟩) else .none
  | none => .none) = _
 rw [h2]
 rfl
theorem b2s_X {x : Nat} {t z : Nat} {pf : Bool} (hx : x < 256) : b2s1 (some (X [.int .u8 (x : Nat)] t z pf)) = val (str [UInt8.ofNat x]) := by
 show (bif (Nat.blt x 256 && true) then val (.string ⟨#[UInt8.ofNat x]⟩) else .none) = _
 rw [nblt, decide_eq_true hx]
 rfl
def tb (k : Nat) : Nat := [97, 98, 97, 99, 98, 46, 97, 32].getD k 0
theorem tb_get {k : Nat} (h : k < 8) : ([.int .u8 97, .int .u8 98, .int .u8 97, .int .u8 99, .int .u8 98, .int .u8 46, .int .u8 97, .int .u8 32] : List Value)[k]? = some (.int .u8 (tb k)) := by
 rcases (show k = 0 ∨ k = 1 ∨ k = 2 ∨ k = 3 ∨ k = 4 ∨ k = 5 ∨ k = 6 ∨ k = 7 by omega) with rfl | rfl | rfl | rfl | rfl | rfl | rfl | rfl <;> rfl
theorem tb_lt (k : Nat) : tb k < 256 := by
 unfold tb
 rw [List.getD_eq_getElem?_getD]
 by_cases h : k < 8
 ·rcases (show k = 0 ∨ k = 1 ∨ k = 2 ∨ k = 3 ∨ k = 4 ∨ k = 5 ∨ k = 6 ∨ k = 7 by omega) with rfl | rfl | rfl | rfl | rfl | rfl | rfl | rfl <;> decide
 ·rw [List.getElem?_eq_none (by simp; omega)]; decide
def wyjc (n : Int) : UInt8 := UInt8.ofNat (tb (wkc n 0 7).toNat)
def textF (l : List Int) (most : Nat) : List UInt8 := (l.take most).map wyjc
theorem wfrb (n : Int) : 0 ≤ wkc n 0 7 ∧ wkc n 0 7 ≤ 7 := by
 unfold wkc
 have := Int.emod_nonneg n (show (8 : Int) ≠ 0 by omega)
 have h5 := Int.emod_lt_of_pos n (show (0 : Int) < 8 by omega)
 rw [show (7 : Int) - 0 + 1 = 8 from rfl, Int.tmod_eq_emod]
 repeat' split
 all_goals omega
theorem wzjc (l : List Int) (most : Nat) (hm : most ≤ 1000) : ∀ (k i : Nat) (acc : List UInt8), i + k = min l.length most → acc.length ≤ i →
  lim Try.prog cfg (.loop 21 0 (wmk 0) (SE (EJ 31 G0) [(6, .int .i64 i), (5, str acc), (1, .int .i64 most), (0, FL l.length (ints l))])) (HP []) = some (.code (.exit 0) (SE (EJ 31 G0) [(5, str (acc ++ ((l.take most).drop i).map wyjc))]), HP []) := by
 intro k
 induction k with
 | zero =>
  intro i acc hi ha
  rw [List.drop_of_length_le (by rw [List.length_take]; omega), List.map_nil, List.append_nil]
  refine web wvm ?_
  unfold wwl
  by_cases h1 : (i : Int) < l.length
  ·have h2 : ¬ (i : Int) < most := by omega
   (repeat' (first | (simp -implicitDefEqProofs (maxSteps := 2000000) (disch := first | with_reducible assumption | omega | (simp only [zS, zA, seval] <;> omega) | fail) only [zS, argl, insA, Go.Den.wm, wo, wu, looks, wab, wz, idOf, riA, seval, Go.Den.wh, kK, wij, wfb, wcb, wgb, *]) | (with_reducible (first | apply z1 | apply z2 | apply z3 | apply z4) <;> intro hq <;> (try simp only [zH] at hq) <;> (try (exfalso; omega)))))
  ·(repeat' (first | (simp -implicitDefEqProofs (maxSteps := 2000000) (disch := first | with_reducible assumption | omega | (simp only [zS, zA, seval] <;> omega) | fail) only [zS, argl, insA, Go.Den.wm, wo, wu, looks, wab, wz, idOf, riA, seval, Go.Den.wh, kK, wij, wfb, wcb, wgb, *]) | (with_reducible (first | apply z1 | apply z2 | apply z3 | apply z4) <;> intro hq <;> (try simp only [zH] at hq) <;> (try (exfalso; omega)))))
 | succ k ih =>
  intro i acc hi ha
  have hlt : i < (l.take most).length := by rw [List.length_take]; omega
  rw [List.drop_eq_getElem_cons hlt, List.map_cons]
  have hg := wkj (l := l) (i := i) (by omega)
  have hv : (l.take most)[i] = l.getD i 0 := by rw [List.getElem_take, List.getD_eq_getElem?_getD, List.getElem?_eq_getElem (by omega)]; rfl
  rw [hv]
  have hw := wbg (l.getD i 0) 0 7 (by omega) (by omega) (by omega)
  have hin := wfrb (l.getD i 0)
  have htb := tb_get (k := (wkc (l.getD i 0) 0 7).toNat) (by omega)
  have hlt2 := tb_lt (wkc (l.getD i 0) 0 7).toNat
  have h1 : (i : Int) < l.length := by omega
  have h2 : (i : Int) < most := by omega
  ·have h := ih (i + 1) (acc ++ [wyjc (l.getD i 0)]) (by omega) (by simp; omega)
   rw [List.append_assoc, List.singleton_append] at h
   clear ih hv hlt
   unfold wyjc at h ⊢
   generalize wkc (l.getD i 0) 0 7 = w at *
   generalize tb w.toNat = c at *
   refine web wvm ?_
   unfold wwl
   (repeat' (first | (simp -implicitDefEqProofs (maxSteps := 2000000) (disch := first | with_reducible assumption | omega | (simp only [zS, zA, seval] <;> omega) | fail) only [zS, argl, insA, Go.Den.wm, wo, wu, looks, wab, wz, idOf, riA, seval, Go.Den.wh, kK, wij, wfb, wcb, wgb, b2s_HP, b2s_X, *]) | (with_reducible (first | apply z1 | apply z2 | apply z3 | apply z4) <;> intro hq <;> (try simp only [zH] at hq) <;> (try (exfalso; omega)))))
   exact h
theorem ev_Text (l : List Int) (most : Nat) (hm : most ≤ 1000) : lim Try.prog cfg (.call 21 [FL l.length (ints l), .int .i64 most]) (HP []) = some (.val (str (textF l most)), HP []) := by
 have h := wzjc l most hm (min l.length most) 0 [] (by omega) (by simp)
 rw [List.drop_zero, List.nil_append, show ((0 : Nat) : Int) = 0 from rfl] at h
 refine wkb hc wcv (Nat.le_of_ble_eq_true rfl) (Nat.le_of_ble_eq_true rfl) ?_
 unfold wpq
 show _ = some (Out.val (str ((l.take most).map wyjc)), HP [])
 (repeat' (first | (simp -implicitDefEqProofs (maxSteps := 2000000) (disch := first | with_reducible assumption | omega | (simp only [zS, zA, seval] <;> omega) | fail) only [zS, argl, insA, Go.Den.wm, wo, wu, looks, wab, wz, idOf, riA, seval, Go.Den.wh, kK, wij, wfb, *]) | (with_reducible (first | apply z1 | apply z2 | apply z3 | apply z4) <;> intro hq <;> (try simp only [zH] at hq) <;> (try (exfalso; omega)))))
end
end Go.Proofs.Ytjihbfdbgamcdaa
namespace Go.Proofs.Ytjihbfdbgamcdaa
set_option linter.unusedVariables false
set_option linter.unusedSimpArgs false
open Go.Den
noncomputable section
abbrev bsB (z s : BitVec 256) : List ABlk := [X (setC z) 43 0 true, X (setC s) 43 0 true]
theorem wme {a b c d e : Value} {s : BitVec 256} : wm [a, b, c, d, e] 0 (setC s) = [wdV s 0, wdV s 1, wdV s 2, wdV s 3, e] := rfl
end
end Go.Proofs.Ytjihbfdbgamcdaa
namespace Go.Proofs.Ytjihbfdbgamcdaa
set_option linter.unusedVariables false
set_option linter.unusedSimpArgs false
open Go.Den
noncomputable section
abbrev mkB (ks ns : List Int) (ere : Bool) : List Value := [FL ks.length (ints ks), FL ns.length (ints ns), .bool ere, .pointer (some ⟨0, 0, none⟩), .pointer (some ⟨1, 0, none⟩), .pointer (some ⟨2, 0, none⟩)]
abbrev mkH (a g l : Int) : List ABlk := [X [.int .i64 a] 3 0 true, X [.int .i64 g] 3 0 true, X [.int .i64 l] 3 0 true]
def wdo (ks : List Int) (a : Nat) : Int := if a < ks.length ∧ a < 30 then ks.getD a 0 else 0
def wti (ns : List Int) (a : Nat) : Int := if 0 < ns.length then ns.getD (a % ns.length) 0 else 0
set_option maxHeartbeats 4000000 in
theorem wcdb (ks ns : List Int) (ere : Bool) (a : Nat) (ha : a ≤ 1000000) (g l : Int) : lim Try.prog cfg (.call 86 [.agg ⟨mkB ks ns ere⟩]) (HP (mkH a g l)) = some (.val (.tuple ⟨[.int .i64 (wdo ks a), .int .i64 (wti ns a)]⟩), HP (mkH (a + 1 : Nat) g l)) := by
 refine wkb hc wip (Nat.le_of_ble_eq_true rfl) (Nat.le_of_ble_eq_true rfl) ?_
 unfold wmm wdo wti
 have hx : ∃ x, (if a < ks.length ∧ a < 30 then ks.getD a 0 else 0) = x := ⟨_, rfl⟩
 have e0 : ((a + 1 : Nat) : Int) = (a : Int) + 1 := by omega
 by_cases hn : 0 < ns.length
 ·rw [if_pos hn]
  obtain ⟨q, hq⟩ : ∃ q, a % ns.length = q := ⟨_, rfl⟩
  have hq1 : (a : Int) % (ns.length : Int) = (q : Int) := by omega
  have hq2 : q < ns.length := by rw [← hq]; exact Nat.mod_lt _ hn
  have hq3 : q ≤ a := by rw [← hq]; exact Nat.mod_le _ _
  rw [hq]
  have hg := wkj hq2
  clear hq hx
  by_cases h1 : a < ks.length
  ·by_cases h2 : a < 30
   ·rw [if_pos ⟨h1, h2⟩]
    have hk := wkj h1
    (repeat' (first | (simp -implicitDefEqProofs (maxSteps := 2000000) (disch := first | with_reducible assumption | omega | (simp only [zS, zA, seval] <;> omega) | fail) only [zS, argl, insA, Go.Den.wm, wo, wu, looks, wab, wz, idOf, riA, seval, Go.Den.wh, kK, wfb, wcb, wgb, *]) | (with_reducible (first | apply z1 | apply z2 | apply z3 | apply z4) <;> intro hq <;> (try simp only [zH] at hq) <;> (try (exfalso; omega))) | (with_reducible apply z5; (case hl => (repeat (first | exact .nil | with_reducible apply z6 | with_reducible apply z7))); (case h => kernel_rfl))))
   ·rw [if_neg (fun h => h2 h.2)]
    (repeat' (first | (simp -implicitDefEqProofs (maxSteps := 2000000) (disch := first | with_reducible assumption | omega | (simp only [zS, zA, seval] <;> omega) | fail) only [zS, argl, insA, Go.Den.wm, wo, wu, looks, wab, wz, idOf, riA, seval, Go.Den.wh, kK, wfb, wcb, wgb, *]) | (with_reducible (first | apply z1 | apply z2 | apply z3 | apply z4) <;> intro hq <;> (try simp only [zH] at hq) <;> (try (exfalso; omega))) | (with_reducible apply z5; (case hl => (repeat (first | exact .nil | with_reducible apply z6 | with_reducible apply z7))); (case h => kernel_rfl))))
  ·rw [if_neg (fun h => h1 h.1)]
   (repeat' (first | (simp -implicitDefEqProofs (maxSteps := 2000000) (disch := first | with_reducible assumption | omega | (simp only [zS, zA, seval] <;> omega) | fail) only [zS, argl, insA, Go.Den.wm, wo, wu, looks, wab, wz, idOf, riA, seval, Go.Den.wh, kK, wfb, wcb, wgb, *]) | (with_reducible (first | apply z1 | apply z2 | apply z3 | apply z4) <;> intro hq <;> (try simp only [zH] at hq) <;> (try (exfalso; omega))) | (with_reducible apply z5; (case hl => (repeat (first | exact .nil | with_reducible apply z6 | with_reducible apply z7))); (case h => kernel_rfl))))
 ·rw [if_neg hn]
  clear hx
  by_cases h1 : a < ks.length
  ·by_cases h2 : a < 30
   ·rw [if_pos ⟨h1, h2⟩]
    have hk := wkj h1
    (repeat' (first | (simp -implicitDefEqProofs (maxSteps := 2000000) (disch := first | with_reducible assumption | omega | (simp only [zS, zA, seval] <;> omega) | fail) only [zS, argl, insA, Go.Den.wm, wo, wu, looks, wab, wz, idOf, riA, seval, Go.Den.wh, kK, wfb, wcb, wgb, *]) | (with_reducible (first | apply z1 | apply z2 | apply z3 | apply z4) <;> intro hq <;> (try simp only [zH] at hq) <;> (try (exfalso; omega))) | (with_reducible apply z5; (case hl => (repeat (first | exact .nil | with_reducible apply z6 | with_reducible apply z7))); (case h => kernel_rfl))))
   ·rw [if_neg (fun h => h2 h.2)]
    (repeat' (first | (simp -implicitDefEqProofs (maxSteps := 2000000) (disch := first | with_reducible assumption | omega | (simp only [zS, zA, seval] <;> omega) | fail) only [zS, argl, insA, Go.Den.wm, wo, wu, looks, wab, wz, idOf, riA, seval, Go.Den.wh, kK, wfb, wcb, wgb, *]) | (with_reducible (first | apply z1 | apply z2 | apply z3 | apply z4) <;> intro hq <;> (try simp only [zH] at hq) <;> (try (exfalso; omega))) | (with_reducible apply z5; (case hl => (repeat (first | exact .nil | with_reducible apply z6 | with_reducible apply z7))); (case h => kernel_rfl))))
  ·rw [if_neg (fun h => h1 h.1)]
   (repeat' (first | (simp -implicitDefEqProofs (maxSteps := 2000000) (disch := first | with_reducible assumption | omega | (simp only [zS, zA, seval] <;> omega) | fail) only [zS, argl, insA, Go.Den.wm, wo, wu, looks, wab, wz, idOf, riA, seval, Go.Den.wh, kK, wfb, wcb, wgb, *]) | (with_reducible (first | apply z1 | apply z2 | apply z3 | apply z4) <;> intro hq <;> (try simp only [zH] at hq) <;> (try (exfalso; omega))) | (with_reducible apply z5; (case hl => (repeat (first | exact .nil | with_reducible apply z6 | with_reducible apply z7))); (case h => kernel_rfl))))
theorem wpmb (s : BitVec 256) (x : Nat) (hx : x < 256) : lim Try.prog cfg (.call 148 [.int .u8 x, .pointer (some ⟨0, 0, none⟩)]) (HP [X (setC s) 43 0 true]) = some (.val (.tuple ⟨[]⟩), HP [X (setC (s ||| one x)) 43 0 true]) := by
 refine wkb hc wbq (Nat.le_of_ble_eq_true rfl) (Nat.le_of_ble_eq_true rfl) ?_
 unfold wum
 have h1 : BitVec.ofInt (IntKind.bits .u64) 1 = BitVec.ofInt (IntKind.bits .u64) (((1#64).toNat : Nat) : Int) := rfl
 have e1 : ((x : Int) / 64).toNat = x / 64 := by omega
 have e2 : ((x : Int) % 64).toNat = x % 64 := by omega
 rw [← or_one s x hx]
 have hs : IntKind.wrap .u64 (1 * 2 ^ (min (x % 64) (IntKind.bits .u64))) = ((1#64 <<< (x % 64)).toNat : Nat) := by
  have := wdic (b := ((x % 64 : Nat) : Int)) (by omega) (by omega)
  rwa [Int.toNat_natCast] at this
 (repeat' (first | (simp -implicitDefEqProofs (maxSteps := 2000000) (disch := first | with_reducible assumption | omega | (simp only [zS, zA, seval, zD] <;> omega) | fail) only [zS, argl, insA, Go.Den.wm, wo, wu, looks, wab, wz, idOf, riA, seval, Go.Den.wh, kK, wuab, wob, *, zT]) | (with_reducible (first | apply z1 | apply z2 | apply z3 | apply z4) <;> intro hq <;> (try simp only [zH] at hq) <;> (try (exfalso; omega)))))
 rw [or_u64, wcib _ (by omega)]
theorem hb_put : wuq Try.prog 148 = true := by kernel_rfl
theorem wddb : cfg.know 148 = none := by kernel_rfl
theorem wpw {i : Nat} {args : List Value} : dynA Try.prog (.func (.func 148) ⟨[]⟩ ⟨[.pointer (some ⟨i, 0, none⟩)]⟩) args = .call 148 (args ++ [.pointer (some ⟨i, 0, none⟩)]) := by
 unfold dynA
 simp only [hb_put, cond_true, List.nil_append]
def wakc : Nat → Nat → BitVec 256 → BitVec 256
 | 0, _, s => s
 | k + 1, i, s => wakc k (i + 1) (s ||| one i)
abbrev bsFn : Value := .func (.func 148) ⟨[]⟩ ⟨[.pointer (some ⟨1, 0, none⟩)]⟩
theorem wizb (z : BitVec 256) : ∀ (k i : Nat) (s : BitVec 256), i + k = 256 →
  lim Try.prog cfg (.loop 132 0 (wce 0) (SE (EJ 47 G0) [(20, .int .i64 i), (4, bsFn), (3, .pointer (some ⟨1, 0, none⟩)), (2, .pointer (some ⟨0, 0, none⟩))])) (HP (bsB z s)) = some (.code (.exit 1) (SE (EJ 47 G0) [(3, .pointer (some ⟨1, 0, none⟩)), (2, .pointer (some ⟨0, 0, none⟩))]), HP (bsB z (wakc k i s))) := by
 intro k
 induction k with
 | zero =>
  intro i s hi
  rw [wakc]
  refine web wfl ?_
  unfold wpj
  (repeat' (first | (simp -implicitDefEqProofs (maxSteps := 2000000) (disch := first | with_reducible assumption | omega | (simp only [zS, zA, seval, wkd, zD] <;> omega) | fail) only [zS, argl, insA, Go.Den.wm, wo, wu, looks, wab, wz, idOf, riA, seval, Go.Den.wh, kK, wuf, *, zT]) | (with_reducible (first | apply z1 | apply z2 | apply z3 | apply z4) <;> intro hq <;> (try simp only [zH] at hq) <;> (try (exfalso; omega)))))
 | succ k ih =>
  intro i s hi
  rw [wakc]
  have h := ih (i + 1) (s ||| one i) (by omega)
  have hp := wpmb s i (by omega)
  clear ih
  refine web wfl ?_
  unfold wpj
  (repeat' (first | (simp -implicitDefEqProofs (maxSteps := 2000000) (disch := first | with_reducible assumption | omega | (simp only [zS, zA, seval, wkd, zD] <;> omega) | fail) only [zS, argl, insA, Go.Den.wm, wo, wu, looks, wab, wz, idOf, riA, seval, Go.Den.wh, kK, wuf, wpw, wddb, *, zT]) | (with_reducible (first | apply z1 | apply z2 | apply z3 | apply z4) <;> intro hq <;> (try simp only [zH] at hq) <;> (try (exfalso; omega)))))
  exact h
end
end Go.Proofs.Ytjihbfdbgamcdaa
namespace Go.Proofs.Ytjihbfdbgamcdaa
set_option linter.unusedVariables false
set_option linter.unusedSimpArgs false
open Go.Den
noncomputable section
def wqmb : Nat → Nat → BitVec 256 → BitVec 256
 | 0, _, s => s
 | k + 1, i, s => wqmb k (i + 1) (if i = 97 then s else s ||| one i)
theorem wgrb (z : BitVec 256) : ∀ (k i : Nat) (s : BitVec 256), i + k = 256 →
  lim Try.prog cfg (.loop 132 0 (wce 1) (SE (EJ 47 G0) [(36, .int .i64 i), (4, bsFn), (3, .pointer (some ⟨1, 0, none⟩)), (2, .pointer (some ⟨0, 0, none⟩))])) (HP (bsB z s)) = some (.code (.exit 3) (SE (EJ 47 G0) [(3, .pointer (some ⟨1, 0, none⟩)), (2, .pointer (some ⟨0, 0, none⟩))]), HP (bsB z (wqmb k i s))) := by
 intro k
 induction k with
 | zero =>
  intro i s hi
  rw [wqmb]
  refine web wli ?_
  unfold wph
  (repeat' (first | (simp -implicitDefEqProofs (maxSteps := 2000000) (disch := first | with_reducible assumption | omega | (simp only [zS, zA, seval, wkd, zD] <;> omega) | fail) only [zS, argl, insA, Go.Den.wm, wo, wu, looks, wab, wz, idOf, riA, seval, Go.Den.wh, kK, wsh, *, zT]) | (with_reducible (first | apply z1 | apply z2 | apply z3 | apply z4) <;> intro hq <;> (try simp only [zH] at hq) <;> (try (exfalso; omega)))))
 | succ k ih =>
  intro i s hi
  rw [wqmb]
  by_cases h97 : i = 97
  ·rw [if_pos h97]
   have h := ih (i + 1) s (by omega)
   have h1 : (i : Int) = 97 := by omega
   clear ih
   subst h97
   refine web wli ?_
   unfold wph
   (repeat' (first | (simp -implicitDefEqProofs (maxSteps := 2000000) (disch := first | with_reducible assumption | omega | (simp only [zS, zA, seval, wkd, zD] <;> omega) | fail) only [zS, argl, insA, Go.Den.wm, wo, wu, looks, wab, wz, idOf, riA, seval, Go.Den.wh, kK, wsh, wpw, wddb, *, zT]) | (with_reducible (first | apply z1 | apply z2 | apply z3 | apply z4) <;> intro hq <;> (try simp only [zH] at hq) <;> (try (exfalso; omega)))))
   all_goals exact h
  ·rw [if_neg h97]
   have h1 : ¬ (i : Int) = 97 := by omega
   have h := ih (i + 1) (s ||| one i) (by omega)
   have hp := wpmb s i (by omega)
   clear ih
   refine web wli ?_
   unfold wph
   (repeat' (first | (simp -implicitDefEqProofs (maxSteps := 2000000) (disch := first | with_reducible assumption | omega | (simp only [zS, zA, seval, wkd, zD] <;> omega) | fail) only [zS, argl, insA, Go.Den.wm, wo, wu, looks, wab, wz, idOf, riA, seval, Go.Den.wh, kK, wsh, wpw, wddb, *, zT]) | (with_reducible (first | apply z1 | apply z2 | apply z3 | apply z4) <;> intro hq <;> (try simp only [zH] at hq) <;> (try (exfalso; omega)))))
   all_goals exact h
def tb6 (k : Nat) : Nat := [97, 98, 99, 46, 42, 10].getD k 0
theorem tb6_get {k : Nat} (h : k < 6) : ([.int .u8 97, .int .u8 98, .int .u8 99, .int .u8 46, .int .u8 42, .int .u8 10] : List Value)[k]? = some (.int .u8 (tb6 k)) := by
 rcases (show k = 0 ∨ k = 1 ∨ k = 2 ∨ k = 3 ∨ k = 4 ∨ k = 5 by omega) with rfl | rfl | rfl | rfl | rfl | rfl <;> rfl
theorem tb6_lt {k : Nat} (h : k < 6) : tb6 k < 256 := by
 rcases (show k = 0 ∨ k = 1 ∨ k = 2 ∨ k = 3 ∨ k = 4 ∨ k = 5 by omega) with rfl | rfl | rfl | rfl | rfl | rfl <;> decide
theorem within5 (n : Int) : 0 ≤ wkc n 0 5 ∧ wkc n 0 5 ≤ 5 := by
 unfold wkc
 have := Int.emod_nonneg n (show (6 : Int) ≠ 0 by omega)
 have h5 := Int.emod_lt_of_pos n (show (0 : Int) < 6 by omega)
 rw [show (5 : Int) - 0 + 1 = 6 from rfl, Int.tmod_eq_emod]
 repeat' split
 all_goals omega
set_option maxHeartbeats 4000000 in
theorem wjz (n : Int) : ∃ s : BitVec 256, lim Try.prog cfg (.call 132 [.int .i64 n]) (HP []) = some (.val (.agg ⟨setC s⟩), HP []) := by
 have hb0 := wizb 0#256 256 0 0#256 (by omega)
 have hb2 := wgrb 0#256 256 0 0#256 (by omega)
 have hw := wbg (IntKind.wrap .i64 (n.tdiv 4)) 0 5 (by omega) (by omega) (by omega)
 have hw2 := wbg n 0 5 (by omega) (by omega) (by omega)
 have hin := within5 n
 have hp1 := wpmb 0#256 97 (by omega)
 have hp2 := wpmb (0#256 ||| one 97) 98 (by omega)
 have hl := tb6_lt (k := (wkc n 0 5).toNat) (by omega)
 have hp3 := wpmb 0#256 (tb6 (wkc n 0 5).toNat) hl
 have hg := tb6_get (k := (wkc n 0 5).toNat) (by omega)
 generalize wkc (IntKind.wrap .i64 (n.tdiv 4)) 0 5 = w at *
 generalize wkc n 0 5 = v at *
 generalize tb6 v.toNat = c at *
 generalize wakc 256 0 0#256 = s0 at *
 generalize wqmb 256 0 0#256 = s2 at *
 generalize 0#256 ||| one 97 ||| one 98 = s1 at *
 have hz : setC 0#256 = [.int .u64 0, .int .u64 0, .int .u64 0, .int .u64 0] := rfl
 rw [show ((0 : Nat) : Int) = 0 from rfl] at hb0 hb2
 unfold bsB at hb0 hb2
 by_cases q0 : w = 0
 ·refine ⟨s0, ?_⟩
  subst q0
  clear hp1 hp2 hp3 hb2 hw2 hg
  rw [hz] at hb0
  refine wkb hc wch (Nat.le_of_ble_eq_true rfl) (Nat.le_of_ble_eq_true rfl) ?_
  unfold wzg
  (repeat' (first | (simp -implicitDefEqProofs (maxSteps := 2000000) (disch := first | with_reducible assumption | omega | (simp only [zS, zA, seval, wkd, zD] <;> omega) | fail) only [zS, argl, insA, Go.Den.wm, wo, wu, looks, wab, wz, idOf, riA, seval, Go.Den.wh, kK, wuf, wpw, wddb, *, zT]) | (with_reducible (first | apply z1 | apply z2 | apply z3 | apply z4) <;> intro hq <;> (try simp only [zH] at hq) <;> (try (exfalso; omega)))))
 by_cases q1 : w = 1
 ·refine ⟨s1, ?_⟩
  subst q1
  clear hp3 hb2 hw2 hg hb0
  refine wkb hc wch (Nat.le_of_ble_eq_true rfl) (Nat.le_of_ble_eq_true rfl) ?_
  unfold wzg
  rw [hz, show ((97 : Nat) : Int) = 97 from rfl] at hp1
  rw [show ((98 : Nat) : Int) = 98 from rfl] at hp2
  (repeat' (first | (simp -implicitDefEqProofs (maxSteps := 2000000) (disch := first | with_reducible assumption | omega | (simp only [zS, zA, seval, wkd, zD] <;> omega) | fail) only [zS, argl, insA, Go.Den.wm, wo, wu, looks, wab, wz, idOf, riA, seval, Go.Den.wh, kK, wuf, wpw, wddb, *, zT]) | (with_reducible (first | apply z1 | apply z2 | apply z3 | apply z4) <;> intro hq <;> (try simp only [zH] at hq) <;> (try (exfalso; omega)))))
 by_cases q2 : w = 2
 ·refine ⟨s2, ?_⟩
  subst q2
  clear hp1 hp2 hp3 hb0 hw2 hg
  rw [hz] at hb2
  refine wkb hc wch (Nat.le_of_ble_eq_true rfl) (Nat.le_of_ble_eq_true rfl) ?_
  unfold wzg
  (repeat' (first | (simp -implicitDefEqProofs (maxSteps := 2000000) (disch := first | with_reducible assumption | omega | (simp only [zS, zA, seval, wkd, zD] <;> omega) | fail) only [zS, argl, insA, Go.Den.wm, wo, wu, looks, wab, wz, idOf, riA, seval, Go.Den.wh, kK, wsh, wpw, wddb, *, zT]) | (with_reducible (first | apply z1 | apply z2 | apply z3 | apply z4) <;> intro hq <;> (try simp only [zH] at hq) <;> (try (exfalso; omega)))))
 refine ⟨0#256 ||| one c, ?_⟩
 clear hp1 hp2 hb0 hb2
 refine wkb hc wch (Nat.le_of_ble_eq_true rfl) (Nat.le_of_ble_eq_true rfl) ?_
 unfold wzg
 rw [hz] at hp3
 (repeat' (first | (simp -implicitDefEqProofs (maxSteps := 2000000) (disch := first | with_reducible assumption | omega | (simp only [zS, zA, seval, wkd, zD] <;> omega) | fail) only [zS, argl, insA, Go.Den.wm, wo, wu, looks, wab, wz, idOf, riA, seval, Go.Den.wh, kK, wuf, wpw, wddb, *, zT]) | (with_reducible (first | apply z1 | apply z2 | apply z3 | apply z4) <;> intro hq <;> (try simp only [zH] at hq) <;> (try (exfalso; omega)))))
end
end Go.Proofs.Ytjihbfdbgamcdaa
namespace Go.Proofs.Ytjihbfdbgamcdaa
set_option linter.unusedVariables false
set_option linter.unusedSimpArgs false
open Go.Den
noncomputable section
def MkOk (ks ns : List Int) (ere : Bool) (f : FuncId) (args : List Value) (M : Nat) : Prop :=
 ∀ (a : Nat) (g l : Int), a + M ≤ 100000 → 0 ≤ g → g ≤ 3 → -1000000 + 2 * (M : Int) ≤ l → l ≤ 1000 →
  ∃ (r : Rx) (a' : Nat) (g' l' : Int), lim Try.prog cfg (.call f (.agg ⟨mkB ks ns ere⟩ :: args)) (HP (mkH a g l)) = some (.val (.agg ⟨rxC r⟩), HP (mkH a' g' l')) ∧ wub r ≤ M ∧ a' ≤ a + M ∧ 0 ≤ g' ∧ g' ≤ 3 ∧ l - 2 * (M : Int) ≤ l' ∧ l' ≤ l
theorem wtt (n : Int) : 0 ≤ wkc n 0 2 ∧ wkc n 0 2 ≤ 2 := by
 unfold wkc
 have := Int.emod_nonneg n (show (3 : Int) ≠ 0 by omega)
 have h5 := Int.emod_lt_of_pos n (show (0 : Int) < 3 by omega)
 rw [show (2 : Int) - 0 + 1 = 3 from rfl, Int.tmod_eq_emod]
 repeat' split
 all_goals omega
theorem wut {k n : Int} {s : BitVec 256} : rxC (.mk k 0 0 n s []) = [.int .i64 k, .int .i64 0, .int .i64 0, .int .i64 n, wdV s 0, wdV s 1, wdV s 2, wdV s 3, FL 0 []] := by rw [rxC, rxsC]; rfl
theorem wdq {k lo hi n : Int} {r : Rx} : rxC (.mk k lo hi n 0#256 [r]) = [.int .i64 k, .int .i64 lo, .int .i64 hi, .int .i64 n, .int .u64 0, .int .u64 0, .int .u64 0, .int .u64 0, FL 1 (rxC r)] := by rw [rxC, rxsC, rxsC, List.append_nil]; rfl
def wbkc (ks ns : List Int) (ere : Bool) (f : FuncId) (args : List Value) (M : Nat) : Prop :=
 ∀ (a : Nat) (g l : Int), a + M ≤ 100000 → 0 ≤ g → g ≤ 3 → -1000000 + 2 * (M : Int) ≤ l → l ≤ 1000 →
  ∃ (r : Rx) (a' : Nat) (g' l' : Int), lim Try.prog cfg (.call f (.agg ⟨mkB ks ns ere⟩ :: args)) (HP (mkH a g l)) = some (.val (.agg ⟨rxC r⟩), HP (mkH a' g' l')) ∧ wub r ≤ M ∧ r.kind ≠ 2 ∧ a' ≤ a + M ∧ 0 ≤ g' ∧ g' ≤ 3 ∧ l - 2 * (M : Int) ≤ l' ∧ l' ≤ l
theorem whrb {k n : Int} : rxC (.mk k 0 0 n 0#256 []) = [.int .i64 k, .int .i64 0, .int .i64 0, .int .i64 n, .int .u64 0, .int .u64 0, .int .u64 0, .int .u64 0, FL 0 []] := by rw [rxC, rxsC]; rfl
set_option maxHeartbeats 8000000 in
theorem part_set (ks ns : List Int) (ere : Bool) (deep : Int) (hd : 0 ≤ deep) (hd2 : deep ≤ 3) (a : Nat) (ha : a ≤ 100000) (g l : Int) (hg : 0 ≤ g) (hg3 : g ≤ 3) (hl : -1000000 ≤ l) (hl2 : l ≤ 1000)
  (hno : ¬ (6 ≤ wkc (wdo ks a) 0 9 ∧ 3 < l - 2 ∧ deep < 3 ∧ g < 3)) (hno2 : ¬ (wkc (wdo ks a) 0 9 = 5 ∧ 0 < g)) :
  ∃ (r : Rx), lim Try.prog cfg (.call 106 [.agg ⟨mkB ks ns ere⟩, .int .i64 deep]) (HP (mkH a g l)) = some (.val (.agg ⟨rxC r⟩), HP (mkH (a + 1 : Nat) g (l - 2))) ∧ wub r ≤ 2 ∧ r.kind ≠ 2 := by
 have h1 := wcdb ks ns ere a (by omega) g l
 obtain ⟨s, h2⟩ := wjz (wti ns a)
 have h3 := wbg (wdo ks a) 0 9 (by omega) (by omega) (by omega)
 have h4 := wbg (wti ns a) 0 2 (by omega) (by omega) (by omega)
 have h5 := wbg (IntKind.wrap .i64 ((wti ns a).tdiv 8)) 0 2 (by omega) (by omega) (by omega)
 have i4 := wtt (wti ns a)
 have i5 := wtt (IntKind.wrap .i64 ((wti ns a).tdiv 8))
 generalize wkc (wdo ks a) 0 9 = c at *
 generalize wkc (wti ns a) 0 2 = lo at *
 generalize wkc (IntKind.wrap .i64 ((wti ns a).tdiv 8)) 0 2 = up at *
 generalize wdo ks a = x at *
 generalize wti ns a = y at *
 obtain ⟨e, he⟩ : ∃ e, IntKind.wrap .i64 ((BitVec.ofInt (IntKind.bits .i64) c &&& BitVec.ofInt (IntKind.bits .i64) 1).toNat : Int) = e := ⟨_, rfl⟩
 obtain ⟨f, hf⟩ : ∃ f, IntKind.wrap .i64 ((BitVec.ofInt (IntKind.bits .i64) y &&& BitVec.ofInt (IntKind.bits .i64) 4).toNat : Int) = f := ⟨_, rfl⟩
 by_cases q : e = 0
 ·refine ⟨(.mk 1 0 0 0 s []), ?_, by simp [wub, wlb], by simp [Rx.kind]⟩
  rw [wut]
  subst q
  clear h4 h5 i4 i5 hf
  refine wkb hc wzb (Nat.le_of_ble_eq_true rfl) (Nat.le_of_ble_eq_true rfl) ?_
  unfold wec
  by_cases c6 : 6 ≤ c
  ·by_cases l3 : 3 < l - 2
   ·by_cases d3 : deep < 3
    ·have g3 : ¬ g < 3 := fun h => hno ⟨c6, l3, d3, h⟩
     clear hno hno2
     (repeat' (first | (simp -implicitDefEqProofs (maxSteps := 2000000) (disch := first | with_reducible assumption | omega | (simp only [zS, zA, seval, wkd, wuk, wvf, zD] <;> omega) | fail) only [zS, argl, insA, Go.Den.wm, wo, wu, looks, wab, wz, idOf, riA, seval, Go.Den.wh, kK, wcb, wgb, wme, wfd, wvf, wpi, wed, *, zT]) | (with_reducible (first | apply z1 | apply z2 | apply z3 | apply z4) <;> intro hq <;> (try simp only [zH] at hq) <;> (try (exfalso; omega))) | (with_reducible apply z5; (case hl => (repeat (first | exact .nil | with_reducible apply z6 | with_reducible apply z7))); (case h => kernel_rfl))))
    ·clear hno hno2
     (repeat' (first | (simp -implicitDefEqProofs (maxSteps := 2000000) (disch := first | with_reducible assumption | omega | (simp only [zS, zA, seval, wkd, wuk, wvf, zD] <;> omega) | fail) only [zS, argl, insA, Go.Den.wm, wo, wu, looks, wab, wz, idOf, riA, seval, Go.Den.wh, kK, wcb, wgb, wme, wfd, wvf, wpi, wed, *, zT]) | (with_reducible (first | apply z1 | apply z2 | apply z3 | apply z4) <;> intro hq <;> (try simp only [zH] at hq) <;> (try (exfalso; omega))) | (with_reducible apply z5; (case hl => (repeat (first | exact .nil | with_reducible apply z6 | with_reducible apply z7))); (case h => kernel_rfl))))
   ·clear hno hno2
    (repeat' (first | (simp -implicitDefEqProofs (maxSteps := 2000000) (disch := first | with_reducible assumption | omega | (simp only [zS, zA, seval, wkd, wuk, wvf, zD] <;> omega) | fail) only [zS, argl, insA, Go.Den.wm, wo, wu, looks, wab, wz, idOf, riA, seval, Go.Den.wh, kK, wcb, wgb, wme, wfd, wvf, wpi, wed, *, zT]) | (with_reducible (first | apply z1 | apply z2 | apply z3 | apply z4) <;> intro hq <;> (try simp only [zH] at hq) <;> (try (exfalso; omega))) | (with_reducible apply z5; (case hl => (repeat (first | exact .nil | with_reducible apply z6 | with_reducible apply z7))); (case h => kernel_rfl))))
  ·clear hno
   by_cases c5 : c = 5
   ·have g0 : ¬ 0 < g := fun h => hno2 ⟨c5, h⟩
    clear hno2
    subst c5
    (repeat' (first | (simp -implicitDefEqProofs (maxSteps := 2000000) (disch := first | with_reducible assumption | omega | (simp only [zS, zA, seval, wkd, wuk, wvf, zD] <;> omega) | fail) only [zS, argl, insA, Go.Den.wm, wo, wu, looks, wab, wz, idOf, riA, seval, Go.Den.wh, kK, wcb, wgb, wme, wfd, wvf, wpi, wed, *, zT]) | (with_reducible (first | apply z1 | apply z2 | apply z3 | apply z4) <;> intro hq <;> (try simp only [zH] at hq) <;> (try (exfalso; omega))) | (with_reducible apply z5; (case hl => (repeat (first | exact .nil | with_reducible apply z6 | with_reducible apply z7))); (case h => kernel_rfl))))
   ·clear hno2
    (repeat' (first | (simp -implicitDefEqProofs (maxSteps := 2000000) (disch := first | with_reducible assumption | omega | (simp only [zS, zA, seval, wkd, wuk, wvf, zD] <;> omega) | fail) only [zS, argl, insA, Go.Den.wm, wo, wu, looks, wab, wz, idOf, riA, seval, Go.Den.wh, kK, wcb, wgb, wme, wfd, wvf, wpi, wed, *, zT]) | (with_reducible (first | apply z1 | apply z2 | apply z3 | apply z4) <;> intro hq <;> (try simp only [zH] at hq) <;> (try (exfalso; omega))) | (with_reducible apply z5; (case hl => (repeat (first | exact .nil | with_reducible apply z6 | with_reducible apply z7))); (case h => kernel_rfl))))
 by_cases f4 : f = 4
 ·refine ⟨.mk 4 lo (max lo 1 + up) 0 0#256 [(.mk 1 0 0 0 s [])], ?_, by simp [wub, wlb], by simp [Rx.kind]⟩
  rw [wdq, wut]
  subst f4
  refine wkb hc wzb (Nat.le_of_ble_eq_true rfl) (Nat.le_of_ble_eq_true rfl) ?_
  unfold wec
  by_cases c6 : 6 ≤ c
  ·by_cases l3 : 3 < l - 2
   ·by_cases d3 : deep < 3
    ·have g3 : ¬ g < 3 := fun h => hno ⟨c6, l3, d3, h⟩
     clear hno hno2
     (repeat' (first | (simp -implicitDefEqProofs (maxSteps := 2000000) (disch := first | with_reducible assumption | omega | (simp only [zS, zA, seval, wkd, wuk, wvf, zD] <;> omega) | fail) only [zS, argl, insA, Go.Den.wm, wo, wu, looks, wab, wz, idOf, riA, seval, Go.Den.wh, kK, wcb, wgb, wme, wfd, wvf, wpi, wed, *, zT]) | (with_reducible (first | apply z1 | apply z2 | apply z3 | apply z4) <;> intro hq <;> (try simp only [zH] at hq) <;> (try (exfalso; omega))) | (with_reducible apply z5; (case hl => (repeat (first | exact .nil | with_reducible apply z6 | with_reducible apply z7))); (case h => kernel_rfl))))
    ·clear hno hno2
     (repeat' (first | (simp -implicitDefEqProofs (maxSteps := 2000000) (disch := first | with_reducible assumption | omega | (simp only [zS, zA, seval, wkd, wuk, wvf, zD] <;> omega) | fail) only [zS, argl, insA, Go.Den.wm, wo, wu, looks, wab, wz, idOf, riA, seval, Go.Den.wh, kK, wcb, wgb, wme, wfd, wvf, wpi, wed, *, zT]) | (with_reducible (first | apply z1 | apply z2 | apply z3 | apply z4) <;> intro hq <;> (try simp only [zH] at hq) <;> (try (exfalso; omega))) | (with_reducible apply z5; (case hl => (repeat (first | exact .nil | with_reducible apply z6 | with_reducible apply z7))); (case h => kernel_rfl))))
   ·clear hno hno2
    (repeat' (first | (simp -implicitDefEqProofs (maxSteps := 2000000) (disch := first | with_reducible assumption | omega | (simp only [zS, zA, seval, wkd, wuk, wvf, zD] <;> omega) | fail) only [zS, argl, insA, Go.Den.wm, wo, wu, looks, wab, wz, idOf, riA, seval, Go.Den.wh, kK, wcb, wgb, wme, wfd, wvf, wpi, wed, *, zT]) | (with_reducible (first | apply z1 | apply z2 | apply z3 | apply z4) <;> intro hq <;> (try simp only [zH] at hq) <;> (try (exfalso; omega))) | (with_reducible apply z5; (case hl => (repeat (first | exact .nil | with_reducible apply z6 | with_reducible apply z7))); (case h => kernel_rfl))))
  ·clear hno
   by_cases c5 : c = 5
   ·have g0 : ¬ 0 < g := fun h => hno2 ⟨c5, h⟩
    clear hno2
    subst c5
    (repeat' (first | (simp -implicitDefEqProofs (maxSteps := 2000000) (disch := first | with_reducible assumption | omega | (simp only [zS, zA, seval, wkd, wuk, wvf, zD] <;> omega) | fail) only [zS, argl, insA, Go.Den.wm, wo, wu, looks, wab, wz, idOf, riA, seval, Go.Den.wh, kK, wcb, wgb, wme, wfd, wvf, wpi, wed, *, zT]) | (with_reducible (first | apply z1 | apply z2 | apply z3 | apply z4) <;> intro hq <;> (try simp only [zH] at hq) <;> (try (exfalso; omega))) | (with_reducible apply z5; (case hl => (repeat (first | exact .nil | with_reducible apply z6 | with_reducible apply z7))); (case h => kernel_rfl))))
   ·clear hno2
    (repeat' (first | (simp -implicitDefEqProofs (maxSteps := 2000000) (disch := first | with_reducible assumption | omega | (simp only [zS, zA, seval, wkd, wuk, wvf, zD] <;> omega) | fail) only [zS, argl, insA, Go.Den.wm, wo, wu, looks, wab, wz, idOf, riA, seval, Go.Den.wh, kK, wcb, wgb, wme, wfd, wvf, wpi, wed, *, zT]) | (with_reducible (first | apply z1 | apply z2 | apply z3 | apply z4) <;> intro hq <;> (try simp only [zH] at hq) <;> (try (exfalso; omega))) | (with_reducible apply z5; (case hl => (repeat (first | exact .nil | with_reducible apply z6 | with_reducible apply z7))); (case h => kernel_rfl))))
 refine ⟨.mk 4 lo (-1) 0 0#256 [(.mk 1 0 0 0 s [])], ?_, by simp [wub, wlb], by simp [Rx.kind]⟩
 rw [wdq, wut]
 clear h5 i5
 refine wkb hc wzb (Nat.le_of_ble_eq_true rfl) (Nat.le_of_ble_eq_true rfl) ?_
 unfold wec
 by_cases c6 : 6 ≤ c
 ·by_cases l3 : 3 < l - 2
  ·by_cases d3 : deep < 3
   ·have g3 : ¬ g < 3 := fun h => hno ⟨c6, l3, d3, h⟩
    clear hno hno2
    (repeat' (first | (simp -implicitDefEqProofs (maxSteps := 2000000) (disch := first | with_reducible assumption | omega | (simp only [zS, zA, seval, wkd, wuk, wvf, zD] <;> omega) | fail) only [zS, argl, insA, Go.Den.wm, wo, wu, looks, wab, wz, idOf, riA, seval, Go.Den.wh, kK, wcb, wgb, wme, wfd, wvf, wpi, wed, *, zT]) | (with_reducible (first | apply z1 | apply z2 | apply z3 | apply z4) <;> intro hq <;> (try simp only [zH] at hq) <;> (try (exfalso; omega))) | (with_reducible apply z5; (case hl => (repeat (first | exact .nil | with_reducible apply z6 | with_reducible apply z7))); (case h => kernel_rfl))))
   ·clear hno hno2
    (repeat' (first | (simp -implicitDefEqProofs (maxSteps := 2000000) (disch := first | with_reducible assumption | omega | (simp only [zS, zA, seval, wkd, wuk, wvf, zD] <;> omega) | fail) only [zS, argl, insA, Go.Den.wm, wo, wu, looks, wab, wz, idOf, riA, seval, Go.Den.wh, kK, wcb, wgb, wme, wfd, wvf, wpi, wed, *, zT]) | (with_reducible (first | apply z1 | apply z2 | apply z3 | apply z4) <;> intro hq <;> (try simp only [zH] at hq) <;> (try (exfalso; omega))) | (with_reducible apply z5; (case hl => (repeat (first | exact .nil | with_reducible apply z6 | with_reducible apply z7))); (case h => kernel_rfl))))
  ·clear hno hno2
   (repeat' (first | (simp -implicitDefEqProofs (maxSteps := 2000000) (disch := first | with_reducible assumption | omega | (simp only [zS, zA, seval, wkd, wuk, wvf, zD] <;> omega) | fail) only [zS, argl, insA, Go.Den.wm, wo, wu, looks, wab, wz, idOf, riA, seval, Go.Den.wh, kK, wcb, wgb, wme, wfd, wvf, wpi, wed, *, zT]) | (with_reducible (first | apply z1 | apply z2 | apply z3 | apply z4) <;> intro hq <;> (try simp only [zH] at hq) <;> (try (exfalso; omega))) | (with_reducible apply z5; (case hl => (repeat (first | exact .nil | with_reducible apply z6 | with_reducible apply z7))); (case h => kernel_rfl))))
 ·clear hno
  by_cases c5 : c = 5
  ·have g0 : ¬ 0 < g := fun h => hno2 ⟨c5, h⟩
   clear hno2
   subst c5
   (repeat' (first | (simp -implicitDefEqProofs (maxSteps := 2000000) (disch := first | with_reducible assumption | omega | (simp only [zS, zA, seval, wkd, wuk, wvf, zD] <;> omega) | fail) only [zS, argl, insA, Go.Den.wm, wo, wu, looks, wab, wz, idOf, riA, seval, Go.Den.wh, kK, wcb, wgb, wme, wfd, wvf, wpi, wed, *, zT]) | (with_reducible (first | apply z1 | apply z2 | apply z3 | apply z4) <;> intro hq <;> (try simp only [zH] at hq) <;> (try (exfalso; omega))) | (with_reducible apply z5; (case hl => (repeat (first | exact .nil | with_reducible apply z6 | with_reducible apply z7))); (case h => kernel_rfl))))
  ·clear hno2
   (repeat' (first | (simp -implicitDefEqProofs (maxSteps := 2000000) (disch := first | with_reducible assumption | omega | (simp only [zS, zA, seval, wkd, wuk, wvf, zD] <;> omega) | fail) only [zS, argl, insA, Go.Den.wm, wo, wu, looks, wab, wz, idOf, riA, seval, Go.Den.wh, kK, wcb, wgb, wme, wfd, wvf, wpi, wed, *, zT]) | (with_reducible (first | apply z1 | apply z2 | apply z3 | apply z4) <;> intro hq <;> (try simp only [zH] at hq) <;> (try (exfalso; omega))) | (with_reducible apply z5; (case hl => (repeat (first | exact .nil | with_reducible apply z6 | with_reducible apply z7))); (case h => kernel_rfl))))
end
end Go.Proofs.Ytjihbfdbgamcdaa
namespace Go.Proofs.Ytjihbfdbgamcdaa
set_option linter.unusedVariables false
set_option linter.unusedSimpArgs false
open Go.Den
noncomputable section
set_option maxHeartbeats 8000000 in
theorem wckc (ks ns : List Int) (ere : Bool) (deep : Int) (hd : 0 ≤ deep) (hd2 : deep ≤ 3) (a : Nat) (ha : a ≤ 100000) (g l : Int) (hg : 0 ≤ g) (hg3 : g ≤ 3) (hl : -1000000 ≤ l) (hl2 : l ≤ 1000)
  (hyes : wkc (wdo ks a) 0 9 = 5 ∧ 0 < g) :
  ∃ (r : Rx), lim Try.prog cfg (.call 106 [.agg ⟨mkB ks ns ere⟩, .int .i64 deep]) (HP (mkH a g l)) = some (.val (.agg ⟨rxC r⟩), HP (mkH (a + 1 : Nat) g (l - 2))) ∧ wub r ≤ 2 ∧ r.kind ≠ 2 := by
 have h1 := wcdb ks ns ere a (by omega) g l
 obtain ⟨s, h2⟩ := wjz (wti ns a)
 have h3 := wbg (wdo ks a) 0 9 (by omega) (by omega) (by omega)
 have h4 := wbg (wti ns a) 0 2 (by omega) (by omega) (by omega)
 have h5 := wbg (IntKind.wrap .i64 ((wti ns a).tdiv 8)) 0 2 (by omega) (by omega) (by omega)
 have i4 := wtt (wti ns a)
 have i5 := wtt (IntKind.wrap .i64 ((wti ns a).tdiv 8))
 have h6 := wbg (wti ns a) 1 g (by omega) (by omega) (by omega)
 generalize wkc (wti ns a) 1 g = qq at *
 generalize wkc (wdo ks a) 0 9 = c at *
 generalize wkc (wti ns a) 0 2 = lo at *
 generalize wkc (IntKind.wrap .i64 ((wti ns a).tdiv 8)) 0 2 = up at *
 generalize wdo ks a = x at *
 generalize wti ns a = y at *
 obtain ⟨e, he⟩ : ∃ e, IntKind.wrap .i64 ((BitVec.ofInt (IntKind.bits .i64) c &&& BitVec.ofInt (IntKind.bits .i64) 1).toNat : Int) = e := ⟨_, rfl⟩
 obtain ⟨f, hf⟩ : ∃ f, IntKind.wrap .i64 ((BitVec.ofInt (IntKind.bits .i64) y &&& BitVec.ofInt (IntKind.bits .i64) 4).toNat : Int) = f := ⟨_, rfl⟩
 obtain ⟨c5, g0⟩ := hyes
 subst c5
 by_cases q : e = 0
 ·refine ⟨(.mk 6 0 0 qq 0#256 []), ?_, by simp [wub, wlb], by simp [Rx.kind]⟩
  rw [whrb]
  subst q
  clear h4 h5 i4 i5 hf
  refine wkb hc wzb (Nat.le_of_ble_eq_true rfl) (Nat.le_of_ble_eq_true rfl) ?_
  unfold wec
  all_goals (repeat' (first | (simp -implicitDefEqProofs (maxSteps := 2000000) (disch := first | with_reducible assumption | omega | (simp only [zS, zA, seval, wkd, wuk, wvf, zD] <;> omega) | fail) only [zS, argl, insA, Go.Den.wm, wo, wu, looks, wab, wz, idOf, riA, seval, Go.Den.wh, kK, wcb, wgb, wme, wfd, wvf, wpi, wed, *, zT]) | (with_reducible (first | apply z1 | apply z2 | apply z3 | apply z4) <;> intro hq <;> (try simp only [zH] at hq) <;> (try (exfalso; omega))) | (with_reducible apply z5; (case hl => (repeat (first | exact .nil | with_reducible apply z6 | with_reducible apply z7))); (case h => kernel_rfl))))
 by_cases f4 : f = 4
 ·refine ⟨.mk 4 lo (max lo 1 + up) 0 0#256 [(.mk 6 0 0 qq 0#256 [])], ?_, by simp [wub, wlb], by simp [Rx.kind]⟩
  rw [wdq, whrb]
  subst f4
  refine wkb hc wzb (Nat.le_of_ble_eq_true rfl) (Nat.le_of_ble_eq_true rfl) ?_
  unfold wec
  all_goals (repeat' (first | (simp -implicitDefEqProofs (maxSteps := 2000000) (disch := first | with_reducible assumption | omega | (simp only [zS, zA, seval, wkd, wuk, wvf, zD] <;> omega) | fail) only [zS, argl, insA, Go.Den.wm, wo, wu, looks, wab, wz, idOf, riA, seval, Go.Den.wh, kK, wcb, wgb, wme, wfd, wvf, wpi, wed, *, zT]) | (with_reducible (first | apply z1 | apply z2 | apply z3 | apply z4) <;> intro hq <;> (try simp only [zH] at hq) <;> (try (exfalso; omega))) | (with_reducible apply z5; (case hl => (repeat (first | exact .nil | with_reducible apply z6 | with_reducible apply z7))); (case h => kernel_rfl))))
 refine ⟨.mk 4 lo (-1) 0 0#256 [(.mk 6 0 0 qq 0#256 [])], ?_, by simp [wub, wlb], by simp [Rx.kind]⟩
 rw [wdq, whrb]
 clear h5 i5
 refine wkb hc wzb (Nat.le_of_ble_eq_true rfl) (Nat.le_of_ble_eq_true rfl) ?_
 unfold wec
 all_goals (repeat' (first | (simp -implicitDefEqProofs (maxSteps := 2000000) (disch := first | with_reducible assumption | omega | (simp only [zS, zA, seval, wkd, wuk, wvf, zD] <;> omega) | fail) only [zS, argl, insA, Go.Den.wm, wo, wu, looks, wab, wz, idOf, riA, seval, Go.Den.wh, kK, wcb, wgb, wme, wfd, wvf, wpi, wed, *, zT]) | (with_reducible (first | apply z1 | apply z2 | apply z3 | apply z4) <;> intro hq <;> (try simp only [zH] at hq) <;> (try (exfalso; omega))) | (with_reducible apply z5; (case hl => (repeat (first | exact .nil | with_reducible apply z6 | with_reducible apply z7))); (case h => kernel_rfl))))
end
end Go.Proofs.Ytjihbfdbgamcdaa
namespace Go.Proofs.Ytjihbfdbgamcdaa
set_option linter.unusedVariables false
set_option linter.unusedSimpArgs false
open Go.Den
noncomputable section
set_option maxHeartbeats 8000000 in
theorem wjzb (ks ns : List Int) (ere : Bool) (deep : Int) (hd : 0 ≤ deep) (hd2 : deep ≤ 3) (M : Nat) (hrow : MkOk ks ns ere 62 [.int .i64 (deep + 1)] M) (a : Nat) (ha : a + M + 2 ≤ 100000) (g l : Int) (hg : 0 ≤ g) (hg3 : g ≤ 3) (hl : -1000000 + 2 * (M : Int) + 4 ≤ l) (hl2 : l ≤ 1000)
  (hyes : 6 ≤ wkc (wdo ks a) 0 9 ∧ 3 < l - 2 ∧ deep < 3 ∧ g < 3) :
  ∃ (r : Rx) (a' : Nat) (g' l' : Int), lim Try.prog cfg (.call 106 [.agg ⟨mkB ks ns ere⟩, .int .i64 deep]) (HP (mkH a g l)) = some (.val (.agg ⟨rxC r⟩), HP (mkH a' g' l')) ∧ wub r ≤ M + 2 ∧ r.kind ≠ 2 ∧ a' ≤ a + M + 2 ∧ 0 ≤ g' ∧ g' ≤ 3 ∧ l - 2 * (M : Int) - 4 ≤ l' ∧ l' ≤ l := by
 obtain ⟨c6, l3, d3, g3⟩ := hyes
 obtain ⟨r0, a2, g2, l2, hr, n0, b1, b2, b3, b4, b5⟩ := hrow (a + 1) (g + 1) (l - 2) (by omega) (by omega) (by omega) (by omega) (by omega)
 clear hrow
 have h1 := wcdb ks ns ere a (by omega) g l
 obtain ⟨s, h2⟩ := wjz (wti ns a)
 have h3 := wbg (wdo ks a) 0 9 (by omega) (by omega) (by omega)
 have h4 := wbg (wti ns a) 0 2 (by omega) (by omega) (by omega)
 have h5 := wbg (IntKind.wrap .i64 ((wti ns a).tdiv 8)) 0 2 (by omega) (by omega) (by omega)
 have i4 := wtt (wti ns a)
 have i5 := wtt (IntKind.wrap .i64 ((wti ns a).tdiv 8))
 generalize wkc (wdo ks a) 0 9 = c at *
 generalize wkc (wti ns a) 0 2 = lo at *
 generalize wkc (IntKind.wrap .i64 ((wti ns a).tdiv 8)) 0 2 = up at *
 generalize wdo ks a = x at *
 generalize wti ns a = y at *
 obtain ⟨e, he⟩ : ∃ e, IntKind.wrap .i64 ((BitVec.ofInt (IntKind.bits .i64) c &&& BitVec.ofInt (IntKind.bits .i64) 1).toNat : Int) = e := ⟨_, rfl⟩
 obtain ⟨f, hf⟩ : ∃ f, IntKind.wrap .i64 ((BitVec.ofInt (IntKind.bits .i64) y &&& BitVec.ofInt (IntKind.bits .i64) 4).toNat : Int) = f := ⟨_, rfl⟩
 by_cases q : e = 0
 ·refine ⟨.mk 5 0 0 (g + 1) 0#256 [r0], a2, g2, l2, ?_, by rw [wub, wlb, wlb]; omega, by simp [Rx.kind], by omega, b2, b3, by omega, by omega⟩
  rw [wdq]
  subst q
  clear h4 h5 i4 i5 hf
  refine wkb hc wzb (Nat.le_of_ble_eq_true rfl) (Nat.le_of_ble_eq_true rfl) ?_
  unfold wec
  all_goals (repeat' (first | (simp -implicitDefEqProofs (maxSteps := 2000000) (disch := first | with_reducible assumption | omega | (simp only [zS, zA, seval, wkd, wuk, wvf, zD] <;> omega) | fail) only [zS, argl, insA, Go.Den.wm, wo, wu, looks, wab, wz, idOf, riA, seval, Go.Den.wh, kK, wcb, wgb, wme, wfd, wvf, wpi, wed, *, zT]) | (with_reducible (first | apply z1 | apply z2 | apply z3 | apply z4) <;> intro hq <;> (try simp only [zH] at hq) <;> (try (exfalso; omega))) | (with_reducible apply z5; (case hl => (repeat (first | exact .nil | with_reducible apply z6 | with_reducible apply z7))); (case h => kernel_rfl))))
 by_cases f4 : f = 4
 ·refine ⟨.mk 4 lo (max lo 1 + up) 0 0#256 [.mk 5 0 0 (g + 1) 0#256 [r0]], a2, g2, l2, ?_, by rw [wub, wlb, wlb, wub, wlb, wlb]; omega, by simp [Rx.kind], by omega, b2, b3, by omega, by omega⟩
  rw [wdq, wdq]
  subst f4
  refine wkb hc wzb (Nat.le_of_ble_eq_true rfl) (Nat.le_of_ble_eq_true rfl) ?_
  unfold wec
  all_goals (repeat' (first | (simp -implicitDefEqProofs (maxSteps := 2000000) (disch := first | with_reducible assumption | omega | (simp only [zS, zA, seval, wkd, wuk, wvf, zD] <;> omega) | fail) only [zS, argl, insA, Go.Den.wm, wo, wu, looks, wab, wz, idOf, riA, seval, Go.Den.wh, kK, wcb, wgb, wme, wfd, wvf, wpi, wed, *, zT]) | (with_reducible (first | apply z1 | apply z2 | apply z3 | apply z4) <;> intro hq <;> (try simp only [zH] at hq) <;> (try (exfalso; omega))) | (with_reducible apply z5; (case hl => (repeat (first | exact .nil | with_reducible apply z6 | with_reducible apply z7))); (case h => kernel_rfl))))
 refine ⟨.mk 4 lo (-1) 0 0#256 [.mk 5 0 0 (g + 1) 0#256 [r0]], a2, g2, l2, ?_, by rw [wub, wlb, wlb, wub, wlb, wlb]; omega, by simp [Rx.kind], by omega, b2, b3, by omega, by omega⟩
 rw [wdq, wdq]
 clear h5 i5
 refine wkb hc wzb (Nat.le_of_ble_eq_true rfl) (Nat.le_of_ble_eq_true rfl) ?_
 unfold wec
 all_goals (repeat' (first | (simp -implicitDefEqProofs (maxSteps := 2000000) (disch := first | with_reducible assumption | omega | (simp only [zS, zA, seval, wkd, wuk, wvf, zD] <;> omega) | fail) only [zS, argl, insA, Go.Den.wm, wo, wu, looks, wab, wz, idOf, riA, seval, Go.Den.wh, kK, wcb, wgb, wme, wfd, wvf, wpi, wed, *, zT]) | (with_reducible (first | apply z1 | apply z2 | apply z3 | apply z4) <;> intro hq <;> (try simp only [zH] at hq) <;> (try (exfalso; omega))) | (with_reducible apply z5; (case hl => (repeat (first | exact .nil | with_reducible apply z6 | with_reducible apply z7))); (case h => kernel_rfl))))
end
end Go.Proofs.Ytjihbfdbgamcdaa
namespace Go.Proofs.Ytjihbfdbgamcdaa
set_option linter.unusedVariables false
set_option linter.unusedSimpArgs false
open Go.Den
noncomputable section
theorem wsib (ks ns : List Int) (ere : Bool) (deep : Int) (hd : 0 ≤ deep) (hd2 : deep ≤ 3) (M : Nat) (hrow : deep < 3 → MkOk ks ns ere 62 [.int .i64 (deep + 1)] M) : wbkc ks ns ere 106 [.int .i64 deep] (M + 2) := by
 intro a g l ha hg hg3 hl hl2
 by_cases h1 : 6 ≤ wkc (wdo ks a) 0 9 ∧ 3 < l - 2 ∧ deep < 3 ∧ g < 3
 ·obtain ⟨r, a', g', l', e, b1, nk, b2, b3, b4, b5, b6⟩ := wjzb ks ns ere deep hd hd2 M (hrow h1.2.2.1) a (by omega) g l hg hg3 (by omega) hl2 h1
  exact ⟨r, a', g', l', e, b1, nk, by omega, b3, b4, by omega, b6⟩
 ·by_cases h2 : wkc (wdo ks a) 0 9 = 5 ∧ 0 < g
  ·obtain ⟨r, e, b1, nk⟩ := wckc ks ns ere deep hd hd2 a (by omega) g l hg hg3 (by omega) hl2 h2
   exact ⟨r, a + 1, g, l - 2, e, by omega, nk, by omega, hg, hg3, by omega, by omega⟩
  ·obtain ⟨r, e, b1, nk⟩ := part_set ks ns ere deep hd hd2 a (by omega) g l hg hg3 (by omega) hl2 h1 h2
   exact ⟨r, a + 1, g, l - 2, e, by omega, nk, by omega, hg, hg3, by omega, by omega⟩
abbrev rxZ : List Value := [.int .i64 0, .int .i64 0, .int .i64 0, .int .i64 0, .int .u64 0, .int .u64 0, .int .u64 0, .int .u64 0, .slice none 0 0]
abbrev ptH (ks ns : List Int) (ere : Bool) (a g l : Int) : List ABlk := mkH a g l ++ [X (mkB ks ns ere) 117 0 false, X rxZ 46 0 false]
theorem wwtb {l : List Rx} {r : Rx} : rxsC (l ++ [r]) = rxsC l ++ rxC r := by rw [wuu, wuu, List.flatMap_append]; simp
theorem wsfb {l : List Rx} {r : Rx} : wlb (l ++ [r]) = wlb l + wub r := by
 induction l with
 | nil => rw [List.nil_append, wlb, wlb, wlb]; omega
 | cons a l ih => rw [List.cons_append, wlb, wlb, ih]; omega
set_option maxHeartbeats 8000000 in
theorem wirb (ks ns : List Int) (ere : Bool) (deep n : Int) (hn : n ≤ 3) (M : Nat) (hM : M ≤ 20000) (hp : wbkc ks ns ere 106 [.int .i64 deep] M) : ∀ (k i : Nat) (out : List Rx) (a : Nat) (g l : Int), (i : Int) + k = n → out ≠ [] → (∀ x ∈ out, x.kind ≠ 2) → out.length ≤ i → a + k * M ≤ 100000 → 0 ≤ g → g ≤ 3 → -1000000 + 2 * ((k * M : Nat) : Int) ≤ l → l ≤ 1000 →
  ∃ (rs : List Rx) (a' : Nat) (g' l' : Int), lim Try.prog cfg (.loop 87 3 (whf 0) (SE (EJ 26 G0) [(9, .int .i64 i), (8, .int .i64 n), (7, FO 5 out.length (rxsC out)), (6, .pointer (some ⟨4, 0, none⟩)), (3, .pointer (some ⟨3, 0, none⟩)), (1, .int .i64 deep)])) (HP (ptH ks ns ere a g l ++ [.tok out.length 46 9]))
   = some (.code (.exit 0) (SE (EJ 26 G0) [(7, FO 4 rs.length (rxsC rs)), (6, .pointer (some ⟨3, 0, none⟩))]), HP (mkH a' g' l' ++ [X rxZ 46 0 false, .tok rs.length 46 9]))
   ∧ rs.length = out.length + k ∧ (∀ x ∈ rs, x.kind ≠ 2) ∧ wlb rs ≤ wlb out + k * M ∧ a' ≤ a + k * M ∧ 0 ≤ g' ∧ g' ≤ 3 ∧ l - 2 * ((k * M : Nat) : Int) ≤ l' ∧ l' ≤ l := by
 intro k
 induction k with
 | zero =>
  intro i out a g l hi ho hk2 hlen ha hg hg3 hl hl2
  refine ⟨out, a, g, l, ?_, by omega, hk2, by omega, by omega, hg, hg3, by omega, by omega⟩
  clear hp hk2
  refine web wxg ?_
  unfold wqf
  (repeat' (first | (simp -implicitDefEqProofs (maxSteps := 2000000) (disch := first | with_reducible assumption | omega | (simp only [zS, zA, seval, zD] <;> omega) | fail) only [zS, argl, insA, Go.Den.wm, wo, wu, looks, wab, wz, idOf, riA, seval, Go.Den.wh, kK, wle, *, zT]) | (with_reducible (first | apply z1 | apply z2 | apply z3 | apply z4) <;> intro hq <;> (try simp only [zH] at hq) <;> (try (exfalso; omega)))))
 | succ k ih =>
  intro i out a g l hi ho hk2 hlen ha hg hg3 hl hl2
  rw [Nat.succ_mul] at ha hl ⊢
  obtain ⟨r, a1, g1, l1, e1, n1, nk, b1, b2, b3, b4, b5⟩ := hp a g l (by omega) hg hg3 (by omega) hl2
  obtain ⟨rs, a2, g2, l2, e2, n2, nks, n3, c1, c2, c3, c4, c5⟩ := ih (i + 1) (out ++ [r]) a1 g1 l1 (by omega) (by simp) (fun x hx => by rcases List.mem_append.1 hx with h | h; exact hk2 x h; rw [List.mem_singleton] at h; subst h; exact nk) (by simp; omega) (by omega) b2 b3 (by omega) (by omega)
  rw [wsfb] at n3
  rw [List.length_append, List.length_singleton] at n2
  refine ⟨rs, a2, g2, l2, ?_, by omega, nks, by omega, by omega, c2, c3, by omega, by omega⟩
  rw [show (out ++ [r]).length = out.length + 1 by simp, wwtb] at e2
  clear hp ih n1 b1 b4 b5 n2 n3 c1 c4 c5 nk nks hk2
  refine web wxg ?_
  unfold wqf
  (repeat' (first | (simp -implicitDefEqProofs (maxSteps := 2000000) (disch := first | with_reducible assumption | omega | (simp only [zS, zA, seval, zD] <;> omega) | fail) only [zS, argl, insA, Go.Den.wm, wo, wu, looks, wab, wz, idOf, riA, seval, Go.Den.wh, kK, wle, *, zT]) | (with_reducible (first | apply z1 | apply z2 | apply z3 | apply z4) <;> intro hq <;> (try simp only [zH] at hq) <;> (try (exfalso; omega)))))
  all_goals first | exact e2 | trace_state
end
end Go.Proofs.Ytjihbfdbgamcdaa
namespace Go.Proofs.Ytjihbfdbgamcdaa
set_option linter.unusedVariables false
set_option linter.unusedSimpArgs false
open Go.Den
noncomputable section
theorem wtfb {r : Rx} : rxsC [r] = rxC r := by rw [rxsC, rxsC, List.append_nil]
theorem wqw {k : Int} {l : List Rx} : rxC (.mk k 0 0 0 0#256 l) = [.int .i64 k, .int .i64 0, .int .i64 0, .int .i64 0, .int .u64 0, .int .u64 0, .int .u64 0, .int .u64 0, FL l.length (rxsC l)] := by rw [rxC]; rfl
set_option maxHeartbeats 8000000 in
theorem wjrb (ks ns : List Int) (ere : Bool) (deep n : Int) (hn : n ≤ 3) (M : Nat) (hM : M ≤ 20000) (hp : wbkc ks ns ere 106 [.int .i64 deep] M) (k : Nat) (a : Nat) (g l : Int) (hi : (k : Int) + 1 = n) (ha : a + (k * M + M) ≤ 100000) (hg : 0 ≤ g) (hg3 : g ≤ 3) (hl : -1000000 + 2 * ((k * M + M : Nat) : Int) ≤ l) (hl2 : l ≤ 1000) :
  ∃ (rs : List Rx) (a' : Nat) (g' l' : Int), lim Try.prog cfg (.loop 87 3 (whf 0) (SE (EJ 26 G0) [(9, .int .i64 0), (8, .int .i64 n), (7, .slice none 0 0), (6, .pointer (some ⟨4, 0, none⟩)), (3, .pointer (some ⟨3, 0, none⟩)), (1, .int .i64 deep)])) (HP (ptH ks ns ere a g l))
   = some (.code (.exit 0) (SE (EJ 26 G0) [(7, FO 4 rs.length (rxsC rs)), (6, .pointer (some ⟨3, 0, none⟩))]), HP (mkH a' g' l' ++ [X rxZ 46 0 false, .tok rs.length 46 9]))
   ∧ rs.length = k + 1 ∧ (∀ x ∈ rs, x.kind ≠ 2) ∧ wlb rs ≤ k * M + M ∧ a' ≤ a + (k * M + M) ∧ 0 ≤ g' ∧ g' ≤ 3 ∧ l - 2 * ((k * M + M : Nat) : Int) ≤ l' ∧ l' ≤ l := by
 obtain ⟨r, a1, g1, l1, e1, n1, nk, b1, b2, b3, b4, b5⟩ := hp a g l (by omega) hg hg3 (by omega) hl2
 obtain ⟨rs, a2, g2, l2, e2, n2, nks, n3, c1, c2, c3, c4, c5⟩ := wirb ks ns ere deep n hn M hM hp k 1 [r] a1 g1 l1 (by omega) (by simp) (fun x hx => by rw [List.mem_singleton] at hx; subst hx; exact nk) (by simp) (by omega) b2 b3 (by omega) (by omega)
 rw [wlb, wlb] at n3
 rw [List.length_singleton] at n2
 refine ⟨rs, a2, g2, l2, ?_, by omega, nks, by omega, by omega, c2, c3, by omega, by omega⟩
 rw [List.length_singleton, wtfb, show ((1 : Nat) : Int) = 1 from rfl] at e2
 have hn0 : 0 < n := by omega
 clear hp n1 b1 b4 b5 n2 n3 c1 c4 c5 hi ha hl nk nks
 refine web wxg ?_
 unfold wqf
 (repeat' (first | (simp -implicitDefEqProofs (maxSteps := 2000000) (disch := first | with_reducible assumption | omega | (simp only [zS, zA, seval, zD] <;> omega) | fail) only [zS, argl, insA, Go.Den.wm, wo, wu, looks, wab, wz, idOf, riA, seval, Go.Den.wh, kK, wle, *, zT]) | (with_reducible (first | apply z1 | apply z2 | apply z3 | apply z4) <;> intro hq <;> (try simp only [zH] at hq) <;> (try (exfalso; omega)))))
 all_goals first | exact e2 | trace_state
def rxK (t n : Nat) (c : List Value) : List Value := [.int .i64 2, .int .i64 0, .int .i64 0, .int .i64 0, .int .u64 0, .int .u64 0, .int .u64 0, .int .u64 0, FO t n c]
def PkOk (ks ns : List Int) (ere : Bool) (args : List Value) (M : Nat) : Prop :=
 ∀ (a : Nat) (g l : Int), a + M ≤ 100000 → 0 ≤ g → g ≤ 3 → -1000000 + 2 * (M : Int) ≤ l → l ≤ 1000 →
  ∃ (r : Rx) (a' : Nat) (g' l' : Int), ((lim Try.prog cfg (.call 87 (.agg ⟨mkB ks ns ere⟩ :: args)) (HP (mkH a g l)) = some (.val (.agg ⟨rxC r⟩), HP (mkH a' g' l')) ∧ r.kind ≠ 2) ∨
   ∃ rs : List Rx, r = .mk 2 0 0 0 0#256 rs ∧ 2 ≤ rs.length ∧ rs.length ≤ 3 ∧ lim Try.prog cfg (.call 87 (.agg ⟨mkB ks ns ere⟩ :: args)) (HP (mkH a g l)) = some (.val (.agg ⟨rxK 3 rs.length (rxsC rs)⟩), HP (mkH a' g' l' ++ [.tok rs.length 46 9])))
   ∧ wub r ≤ M ∧ a' ≤ a + M ∧ 0 ≤ g' ∧ g' ≤ 3 ∧ l - 2 * (M : Int) ≤ l' ∧ l' ≤ l
set_option maxHeartbeats 8000000 in
theorem wtib (ks ns : List Int) (ere : Bool) (deep n : Int) (hn : n ≤ 3) (M : Nat) (hM : M ≤ 20000) (hp : wbkc ks ns ere 106 [.int .i64 deep] M) (k : Nat) (hi : (k : Int) + 1 = n) : PkOk ks ns ere [.int .i64 deep, .int .i64 n] (1 + (k * M + M)) := by
 intro a g l ha hg hg3 hl hl2
 obtain ⟨rs, a2, g2, l2, e2, n2, nks, n3, c1, c2, c3, c4, c5⟩ := wjrb ks ns ere deep n hn M hM hp k a g l hi (by omega) hg hg3 (by omega) hl2
 simp only [ptH, mkH, List.cons_append, List.nil_append] at e2
 clear hp
 have hlen : rs.length ≤ 3 := by omega
 by_cases h1 : rs.length = 1
 ·match rs, h1 with
  | [r], _ =>
   rw [wlb, wlb] at n3
   refine ⟨r, a2, g2, l2, .inl ⟨?_, nks r (List.mem_singleton.2 rfl)⟩, by omega, by omega, c2, c3, by omega, by omega⟩
   rw [List.length_singleton, wtfb] at e2
   clear n2 n3 c1 c4 c5 hi ha hl hlen nks
   refine wkb hc wjk (Nat.le_of_ble_eq_true rfl) (Nat.le_of_ble_eq_true rfl) ?_
   unfold wxi
   (repeat' (first | (simp -implicitDefEqProofs (maxSteps := 2000000) (disch := first | with_reducible assumption | omega | (simp only [zS, zA, seval, wuk, wvf, zD] <;> omega) | fail) only [zS, argl, insA, Go.Den.wm, wo, wu, looks, wab, wz, idOf, riA, seval, Go.Den.wh, kK, wle, wfd, wvf, wpi, wed, *, zT]) | (with_reducible (first | apply z1 | apply z2 | apply z3 | apply z4) <;> intro hq <;> (try simp only [zH] at hq) <;> (try (exfalso; omega)))))
 ·refine ⟨.mk 2 0 0 0 0#256 rs, a2, g2, l2, .inr ⟨rs, rfl, by omega, hlen, ?_⟩, by rw [wub]; omega, by omega, c2, c3, by omega, by omega⟩
  have h2 : ¬ (rs.length : Int) = 1 := by omega
  clear n2 n3 c1 c4 c5 hi ha hl h1 nks
  simp only [rxK, mkH, List.cons_append, List.nil_append]
  refine wkb hc wjk (Nat.le_of_ble_eq_true rfl) (Nat.le_of_ble_eq_true rfl) ?_
  unfold wxi
  (repeat' (first | (simp -implicitDefEqProofs (maxSteps := 2000000) (disch := first | with_reducible assumption | omega | (simp only [zS, zA, seval, wuk, wks, wvf, zD] <;> omega) | fail) only [zS, argl, insA, Go.Den.wm, wo, wu, looks, wab, wz, idOf, riA, seval, Go.Den.wh, kK, wle, wfd, wvf, wpi, wed, *, zT]) | (with_reducible (first | apply z1 | apply z2 | apply z3 | apply z4) <;> intro hq <;> (try simp only [zH] at hq) <;> (try (exfalso; omega)))))
end
end Go.Proofs.Ytjihbfdbgamcdaa
namespace Go.Proofs.Ytjihbfdbgamcdaa
set_option linter.unusedVariables false
set_option linter.unusedSimpArgs false
open Go.Den
noncomputable section
theorem wxk {l : List Rx} : nfL (rxsC l) = rxsC l := (wks l).2.2.2.2.2.1
theorem wyk {a b : List Value} : nfL (a ++ b) = nfL a ++ nfL b := by
 induction a with
 | nil => rfl
 | cons v a ih => rw [List.cons_append, wth, wth, ih, List.cons_append]
theorem wdkc {l : List Rx} : slotsOf (rxsC l) 0 (l.length * 9) = rxsC l := by
 unfold slotsOf
 rw [List.drop_zero, ← wgz, List.take_length]
theorem rx_begin : rxC (.mk 7 0 0 0 0#256 []) = [.int .i64 7, .int .i64 0, .int .i64 0, .int .i64 0, .int .u64 0, .int .u64 0, .int .u64 0, .int .u64 0, FL 0 []] := by rw [rxC, rxsC]; rfl
theorem rx_end : rxC (.mk 8 0 0 0 0#256 []) = [.int .i64 8, .int .i64 0, .int .i64 0, .int .i64 0, .int .u64 0, .int .u64 0, .int .u64 0, .int .u64 0, FL 0 []] := by rw [rxC, rxsC]; rfl
theorem rxs_cons {r : Rx} {l : List Rx} : rxsC (r :: l) = rxC r ++ rxsC l := by rw [rxsC]
set_option maxHeartbeats 8000000 in
theorem wekc (ks ns : List Int) (ere : Bool) (deep : Int) (hd : 0 ≤ deep) (hd2 : deep ≤ 3) (M : Nat) (a : Nat) (g l : Int) (hp : PkOk ks ns ere [.int .i64 deep, .int .i64 (1 + wkc (wti ns a) 0 2)] M) (ha : a + (M + 1) ≤ 100000) (hg : 0 ≤ g) (hg3 : g ≤ 3) (hl : -1000000 + 2 * (M : Int) + 2 ≤ l) (hl2 : l ≤ 1000)
  (hno : ¬ (ere = true ∧ wkc (wdo ks a) 0 9 = 9 ∧ 4 < l - 1 ∧ deep < 3)) :
  ∃ (r : Rx) (a' : Nat) (g' l' : Int), lim Try.prog cfg (.call 62 [.agg ⟨mkB ks ns ere⟩, .int .i64 deep]) (HP (mkH a g l)) = some (.val (.agg ⟨rxC r⟩), HP (mkH a' g' l')) ∧ wub r ≤ M + 1 ∧ a' ≤ a + (M + 1) ∧ 0 ≤ g' ∧ g' ≤ 3 ∧ l - 2 * (M : Int) - 2 ≤ l' ∧ l' ≤ l := by
 have h1 := wcdb ks ns ere a (by omega) g l
 have h3 := wbg (wdo ks a) 0 9 (by omega) (by omega) (by omega)
 have h4 := wbg (wti ns a) 0 2 (by omega) (by omega) (by omega)
 have i4 := wtt (wti ns a)
 generalize wkc (wdo ks a) 0 9 = c at *
 generalize wkc (wti ns a) 0 2 = w at *
 generalize wdo ks a = x at *
 generalize wti ns a = y at *
 obtain ⟨r, a2, g2, l2, e2, n2, b1, b2, b3, b4, b5⟩ := hp (a + 1) g (l - 1) (by omega) hg hg3 (by omega) (by omega)
 clear hp
 rcases e2 with ⟨e2, k2⟩ | ⟨rs, hr, hr2, hr3, e2⟩
 ·refine ⟨r, a2, g2, l2, ?_, by omega, by omega, b2, b3, by omega, by omega⟩
  clear n2 b1 b4 b5 ha
  refine wkb hc wdf (Nat.le_of_ble_eq_true rfl) (Nat.le_of_ble_eq_true rfl) ?_
  unfold wbf
  cases ere with
  | false =>
   clear hno
   (repeat' (first | (simp -implicitDefEqProofs (maxSteps := 2000000) (disch := first | with_reducible assumption | omega | (simp only [zS, zA, seval, wuk, zD] <;> omega) | fail) only [zS, argl, insA, Go.Den.wm, wo, wu, looks, wab, wz, idOf, riA, seval, Go.Den.wh, kK, wcb, wgb, *, zT]) | (with_reducible (first | apply z1 | apply z2 | apply z3 | apply z4) <;> intro hq <;> (try simp only [zH] at hq) <;> (try (exfalso; omega))) | (with_reducible apply z5; (case hl => (repeat (first | exact .nil | with_reducible apply z6 | with_reducible apply z7))); (case h => kernel_rfl))))
  | true =>
   by_cases c9 : c = 9
   ·by_cases l4 : 4 < l - 1
    ·have d3 : ¬ deep < 3 := fun h => hno ⟨rfl, c9, l4, h⟩
     clear hno
     subst c9
     (repeat' (first | (simp -implicitDefEqProofs (maxSteps := 2000000) (disch := first | with_reducible assumption | omega | (simp only [zS, zA, seval, wuk, zD] <;> omega) | fail) only [zS, argl, insA, Go.Den.wm, wo, wu, looks, wab, wz, idOf, riA, seval, Go.Den.wh, kK, wcb, wgb, *, zT]) | (with_reducible (first | apply z1 | apply z2 | apply z3 | apply z4) <;> intro hq <;> (try simp only [zH] at hq) <;> (try (exfalso; omega))) | (with_reducible apply z5; (case hl => (repeat (first | exact .nil | with_reducible apply z6 | with_reducible apply z7))); (case h => kernel_rfl))))
    ·clear hno
     subst c9
     (repeat' (first | (simp -implicitDefEqProofs (maxSteps := 2000000) (disch := first | with_reducible assumption | omega | (simp only [zS, zA, seval, wuk, zD] <;> omega) | fail) only [zS, argl, insA, Go.Den.wm, wo, wu, looks, wab, wz, idOf, riA, seval, Go.Den.wh, kK, wcb, wgb, *, zT]) | (with_reducible (first | apply z1 | apply z2 | apply z3 | apply z4) <;> intro hq <;> (try simp only [zH] at hq) <;> (try (exfalso; omega))) | (with_reducible apply z5; (case hl => (repeat (first | exact .nil | with_reducible apply z6 | with_reducible apply z7))); (case h => kernel_rfl))))
   ·clear hno
    (repeat' (first | (simp -implicitDefEqProofs (maxSteps := 2000000) (disch := first | with_reducible assumption | omega | (simp only [zS, zA, seval, wuk, zD] <;> omega) | fail) only [zS, argl, insA, Go.Den.wm, wo, wu, looks, wab, wz, idOf, riA, seval, Go.Den.wh, kK, wcb, wgb, *, zT]) | (with_reducible (first | apply z1 | apply z2 | apply z3 | apply z4) <;> intro hq <;> (try simp only [zH] at hq) <;> (try (exfalso; omega))) | (with_reducible apply z5; (case hl => (repeat (first | exact .nil | with_reducible apply z6 | with_reducible apply z7))); (case h => kernel_rfl))))
 ·subst hr
  rw [wub] at n2
  simp only [rxK, mkH, List.cons_append, List.nil_append] at e2
  by_cases c8 : c = 8
  ·refine ⟨.mk 2 0 0 0 0#256 (.mk 7 0 0 0 0#256 [] :: rs), a2, g2, l2, ?_, by rw [wub, wlb, wub, wlb]; omega, by omega, b2, b3, by omega, by omega⟩
   rw [wqw, rxs_cons, rx_begin, List.length_cons, Nat.add_comm]
   have hsl := wdkc (l := rs)
   have hcl : rs.length * 9 ≤ (rxsC rs).length := by rw [wgz]; exact Nat.le_refl _
   clear n2 b1 b4 b5 ha hno
   subst c8
   refine wkb hc wdf (Nat.le_of_ble_eq_true rfl) (Nat.le_of_ble_eq_true rfl) ?_
   unfold wbf
   cases ere with
   | false =>
    (repeat' (first | (simp -implicitDefEqProofs (maxSteps := 2000000) (disch := first | with_reducible assumption | omega | (simp only [zS, zA, seval, wks, wvk, wth, wjo, wdv, wwk, wxk, wyk, zD] <;> omega) | fail) only [zS, argl, insA, Go.Den.wm, wo, wu, looks, wab, wz, idOf, riA, seval, Go.Den.wh, kK, wcb, wgb, wcjc, wvk, wth, wjo, wdv, wwk, wup, wgm, waab, wxk, wyk, *, zT]) | (with_reducible (first | apply z1 | apply z2 | apply z3 | apply z4) <;> intro hq <;> (try simp only [zH] at hq) <;> (try (exfalso; omega))) | (with_reducible apply z5; (case hl => (repeat (first | exact .nil | with_reducible apply z6 | with_reducible apply z7))); (case h => kernel_rfl))))
   | true =>
    (repeat' (first | (simp -implicitDefEqProofs (maxSteps := 2000000) (disch := first | with_reducible assumption | omega | (simp only [zS, zA, seval, wks, wvk, wth, wjo, wdv, wwk, wxk, wyk, zD] <;> omega) | fail) only [zS, argl, insA, Go.Den.wm, wo, wu, looks, wab, wz, idOf, riA, seval, Go.Den.wh, kK, wcb, wgb, wcjc, wvk, wth, wjo, wdv, wwk, wup, wgm, waab, wxk, wyk, *, zT]) | (with_reducible (first | apply z1 | apply z2 | apply z3 | apply z4) <;> intro hq <;> (try simp only [zH] at hq) <;> (try (exfalso; omega))) | (with_reducible apply z5; (case hl => (repeat (first | exact .nil | with_reducible apply z6 | with_reducible apply z7))); (case h => kernel_rfl))))
  ·by_cases c7 : c = 7
   ·refine ⟨.mk 2 0 0 0 0#256 (rs ++ [.mk 8 0 0 0 0#256 []]), a2, g2, l2, ?_, by rw [wub, wsfb, wub, wlb]; omega, by omega, b2, b3, by omega, by omega⟩
    rw [wqw, wwtb, rx_end, List.length_append, List.length_singleton]
    clear n2 b1 b4 b5 ha hno
    subst c7
    refine wkb hc wdf (Nat.le_of_ble_eq_true rfl) (Nat.le_of_ble_eq_true rfl) ?_
    unfold wbf
    cases ere with
    | false =>
     (repeat' (first | (simp -implicitDefEqProofs (maxSteps := 2000000) (disch := first | with_reducible assumption | omega | (simp only [zS, zA, seval, wks, wvk, wth, wjo, wdv, wwk, wxk, wyk, zD] <;> omega) | fail) only [zS, argl, insA, Go.Den.wm, wo, wu, looks, wab, wz, idOf, riA, seval, Go.Den.wh, kK, wcb, wgb, wvk, wth, wjo, wdv, wwk, wup, wgm, waab, wxk, wyk, *, zT]) | (with_reducible (first | apply z1 | apply z2 | apply z3 | apply z4) <;> intro hq <;> (try simp only [zH] at hq) <;> (try (exfalso; omega))) | (with_reducible apply z5; (case hl => (repeat (first | exact .nil | with_reducible apply z6 | with_reducible apply z7))); (case h => kernel_rfl))))
    | true =>
     (repeat' (first | (simp -implicitDefEqProofs (maxSteps := 2000000) (disch := first | with_reducible assumption | omega | (simp only [zS, zA, seval, wks, wvk, wth, wjo, wdv, wwk, wxk, wyk, zD] <;> omega) | fail) only [zS, argl, insA, Go.Den.wm, wo, wu, looks, wab, wz, idOf, riA, seval, Go.Den.wh, kK, wcb, wgb, wvk, wth, wjo, wdv, wwk, wup, wgm, waab, wxk, wyk, *, zT]) | (with_reducible (first | apply z1 | apply z2 | apply z3 | apply z4) <;> intro hq <;> (try simp only [zH] at hq) <;> (try (exfalso; omega))) | (with_reducible apply z5; (case hl => (repeat (first | exact .nil | with_reducible apply z6 | with_reducible apply z7))); (case h => kernel_rfl))))
   ·refine ⟨.mk 2 0 0 0 0#256 rs, a2, g2, l2, ?_, by rw [wub]; omega, by omega, b2, b3, by omega, by omega⟩
    rw [wqw]
    clear n2 b1 b4 b5 ha
    refine wkb hc wdf (Nat.le_of_ble_eq_true rfl) (Nat.le_of_ble_eq_true rfl) ?_
    unfold wbf
    cases ere with
    | false =>
     clear hno
     (repeat' (first | (simp -implicitDefEqProofs (maxSteps := 2000000) (disch := first | with_reducible assumption | omega | (simp only [zS, zA, seval, wks, wvk, wth, wjo, wdv, wwk, wxk, wyk, zD] <;> omega) | fail) only [zS, argl, insA, Go.Den.wm, wo, wu, looks, wab, wz, idOf, riA, seval, Go.Den.wh, kK, wcb, wgb, wvk, wth, wjo, wdv, wwk, wup, wgm, waab, wxk, wyk, *, zT]) | (with_reducible (first | apply z1 | apply z2 | apply z3 | apply z4) <;> intro hq <;> (try simp only [zH] at hq) <;> (try (exfalso; omega))) | (with_reducible apply z5; (case hl => (repeat (first | exact .nil | with_reducible apply z6 | with_reducible apply z7))); (case h => kernel_rfl))))
    | true =>
     by_cases c9 : c = 9
     ·by_cases l4 : 4 < l - 1
      ·have d3 : ¬ deep < 3 := fun h => hno ⟨rfl, c9, l4, h⟩
       clear hno
       subst c9
       (repeat' (first | (simp -implicitDefEqProofs (maxSteps := 2000000) (disch := first | with_reducible assumption | omega | (simp only [zS, zA, seval, wks, wvk, wth, wjo, wdv, wwk, wxk, wyk, zD] <;> omega) | fail) only [zS, argl, insA, Go.Den.wm, wo, wu, looks, wab, wz, idOf, riA, seval, Go.Den.wh, kK, wcb, wgb, wvk, wth, wjo, wdv, wwk, wup, wgm, waab, wxk, wyk, *, zT]) | (with_reducible (first | apply z1 | apply z2 | apply z3 | apply z4) <;> intro hq <;> (try simp only [zH] at hq) <;> (try (exfalso; omega))) | (with_reducible apply z5; (case hl => (repeat (first | exact .nil | with_reducible apply z6 | with_reducible apply z7))); (case h => kernel_rfl))))
      ·clear hno
       subst c9
       (repeat' (first | (simp -implicitDefEqProofs (maxSteps := 2000000) (disch := first | with_reducible assumption | omega | (simp only [zS, zA, seval, wks, wvk, wth, wjo, wdv, wwk, wxk, wyk, zD] <;> omega) | fail) only [zS, argl, insA, Go.Den.wm, wo, wu, looks, wab, wz, idOf, riA, seval, Go.Den.wh, kK, wcb, wgb, wvk, wth, wjo, wdv, wwk, wup, wgm, waab, wxk, wyk, *, zT]) | (with_reducible (first | apply z1 | apply z2 | apply z3 | apply z4) <;> intro hq <;> (try simp only [zH] at hq) <;> (try (exfalso; omega))) | (with_reducible apply z5; (case hl => (repeat (first | exact .nil | with_reducible apply z6 | with_reducible apply z7))); (case h => kernel_rfl))))
     ·clear hno
      (repeat' (first | (simp -implicitDefEqProofs (maxSteps := 2000000) (disch := first | with_reducible assumption | omega | (simp only [zS, zA, seval, wks, wvk, wth, wjo, wdv, wwk, wxk, wyk, zD] <;> omega) | fail) only [zS, argl, insA, Go.Den.wm, wo, wu, looks, wab, wz, idOf, riA, seval, Go.Den.wh, kK, wcb, wgb, wvk, wth, wjo, wdv, wwk, wup, wgm, waab, wxk, wyk, *, zT]) | (with_reducible (first | apply z1 | apply z2 | apply z3 | apply z4) <;> intro hq <;> (try simp only [zH] at hq) <;> (try (exfalso; omega))) | (with_reducible apply z5; (case hl => (repeat (first | exact .nil | with_reducible apply z6 | with_reducible apply z7))); (case h => kernel_rfl))))
end
end Go.Proofs.Ytjihbfdbgamcdaa
namespace Go.Proofs.Ytjihbfdbgamcdaa
set_option linter.unusedVariables false
set_option linter.unusedSimpArgs false
open Go.Den
noncomputable section
theorem rxs_two {r s : Rx} : rxsC [r, s] = rxC r ++ rxC s := by rw [rxsC, rxsC, rxsC, List.append_nil]
theorem wfkc {r : Rx} : wm ([.int .i64 0, .int .i64 0, .int .i64 0, .int .i64 0, .int .u64 0, .int .u64 0, .int .u64 0, .int .u64 0, .slice none 0 0, .int .i64 0, .int .i64 0, .int .i64 0, .int .i64 0, .int .u64 0, .int .u64 0, .int .u64 0, .int .u64 0, .slice none 0 0]) 0 (rxC r) = rxC r ++ rxZ := by rw [wqq]; rfl
theorem over_rx9 {r s : Rx} : wm (rxC r ++ rxZ) 9 (rxC s) = rxC r ++ rxC s := by rw [wqq (r := r), wqq (r := s)]; rfl
theorem wufb {r s : Rx} : wqb (rxC r ++ rxC s) = true := by rw [wqq (r := r), wqq (r := s)]; rfl
theorem wgkc {r s : Rx} : slotsOf (rxC r ++ rxC s) 0 18 = rxC r ++ rxC s := by rw [wqq (r := r), wqq (r := s)]; rfl
theorem wkrb {t n : Nat} {c : List Value} : rxK t n c = [.int .i64 2, .int .i64 0, .int .i64 0, .int .i64 0, .int .u64 0, .int .u64 0, .int .u64 0, .int .u64 0, FO t n c] := rfl
set_option maxHeartbeats 8000000 in
theorem row_alt (ks ns : List Int) (deep : Int) (hd : 0 ≤ deep) (M : Nat) (a : Nat) (g l f : Int) (hf : IntKind.wrap .i64 ((BitVec.ofInt (IntKind.bits .i64) (wti ns a) &&& BitVec.ofInt (IntKind.bits .i64) 1).toNat : Int) = f) (hf2 : 0 ≤ f ∧ f ≤ 1)
  (hp : PkOk ks ns true [.int .i64 deep, .int .i64 (1 + f)] M) (hp2 : PkOk ks ns true [.int .i64 deep, .int .i64 1] M) (ha : a + (2 * M + 1) ≤ 100000) (hg : 0 ≤ g) (hg3 : g ≤ 3) (hl : -1000000 + 4 * (M : Int) + 2 ≤ l) (hl2 : l ≤ 1000)
  (c9 : wkc (wdo ks a) 0 9 = 9) (l4 : 4 < l - 1) (d3 : deep < 3) :
  ∃ (r : Rx) (a' : Nat) (g' l' : Int), lim Try.prog cfg (.call 62 [.agg ⟨mkB ks ns true⟩, .int .i64 deep]) (HP (mkH a g l)) = some (.val (.agg ⟨rxC r⟩), HP (mkH a' g' l')) ∧ wub r ≤ 2 * M + 1 ∧ a' ≤ a + (2 * M + 1) ∧ 0 ≤ g' ∧ g' ≤ 3 ∧ l - 4 * (M : Int) - 2 ≤ l' ∧ l' ≤ l := by
 have h1 := wcdb ks ns true a (by omega) g l
 have h3 := wbg (wdo ks a) 0 9 (by omega) (by omega) (by omega)
 rw [c9] at h3
 clear c9
 generalize wdo ks a = x at *
 generalize wti ns a = y at *
 obtain ⟨r, a2, g2, l2, e2, n2, b1, b2, b3, b4, b5⟩ := hp (a + 1) g (l - 1) (by omega) hg hg3 (by omega) (by omega)
 obtain ⟨s, a3, g3, l3, e3, n3, c1, c2, c3, c4, c5⟩ := hp2 a2 g2 l2 (by omega) b2 b3 (by omega) (by omega)
 refine ⟨.mk 3 0 0 0 0#256 [r, s], a3, g3, l3, ?_, by rw [wub, wlb, wlb, wlb]; omega, by omega, c2, c3, by omega, by omega⟩
 rw [wqw, rxs_two]
 clear hp hp2 n2 b1 b4 b5 n3 c1 c4 c5 ha
 refine wkb hc wdf (Nat.le_of_ble_eq_true rfl) (Nat.le_of_ble_eq_true rfl) ?_
 unfold wbf
 rcases e2 with ⟨e2, _⟩ | ⟨rs, rfl, _, _, e2⟩
 ·rcases e3 with ⟨e3, _⟩ | ⟨ss, rfl, _, _, e3⟩
  ·(repeat' (first | (simp -implicitDefEqProofs (maxSteps := 2000000) (disch := first | with_reducible assumption | omega | (simp only [zS, zA, seval, wuk, wvf, wufb, zD] <;> omega) | fail) only [zS, argl, insA, Go.Den.wm, wo, wu, looks, wab, wz, idOf, riA, seval, Go.Den.wh, kK, wcb, wgb, wfd, wvf, wpi, wed, wfkc, over_rx9, wufb, wgkc, *, zT]) | (with_reducible (first | apply z1 | apply z2 | apply z3 | apply z4) <;> intro hq <;> (try simp only [zH] at hq) <;> (try (exfalso; omega))) | (with_reducible apply z5; (case hl => (repeat (first | exact .nil | with_reducible apply z6 | with_reducible apply z7))); (case h => kernel_rfl))))
  ·rw [wkrb] at e3
   rw [wqw]
   simp only [mkH, List.cons_append, List.nil_append] at e3
   rw [wqq (r := r)] at e2 ⊢
   (repeat' (first | (simp -implicitDefEqProofs (maxSteps := 2000000) (disch := first | with_reducible assumption | omega | (simp only [zS, zA, seval, wvf, zD] <;> omega) | fail) only [zS, argl, insA, Go.Den.wm, wo, wu, looks, wab, wz, idOf, riA, seval, Go.Den.wh, kK, wcb, wgb, wfd, wvf, wpi, wed, *, zT]) | (with_reducible (first | apply z1 | apply z2 | apply z3 | apply z4) <;> intro hq <;> (try simp only [zH] at hq) <;> (try (exfalso; omega))) | (with_reducible apply z5; (case hl => (repeat (first | exact .nil | with_reducible apply z6 | with_reducible apply z7))); (case h => kernel_rfl))))
 ·rw [wkrb] at e2
  rw [wqw]
  simp only [mkH, List.cons_append, List.nil_append] at e2
  rcases e3 with ⟨e3, _⟩ | ⟨ss, rfl, _, _, e3⟩
  ·rw [wqq (r := s)] at e3 ⊢
   (repeat' (first | (simp -implicitDefEqProofs (maxSteps := 2000000) (disch := first | with_reducible assumption | omega | (simp only [zS, zA, seval, wvf, zD] <;> omega) | fail) only [zS, argl, insA, Go.Den.wm, wo, wu, looks, wab, wz, idOf, riA, seval, Go.Den.wh, kK, wcb, wgb, wfd, wvf, wpi, wed, *, zT]) | (with_reducible (first | apply z1 | apply z2 | apply z3 | apply z4) <;> intro hq <;> (try simp only [zH] at hq) <;> (try (exfalso; omega))) | (with_reducible apply z5; (case hl => (repeat (first | exact .nil | with_reducible apply z6 | with_reducible apply z7))); (case h => kernel_rfl))))
  ·rw [wkrb] at e3
   rw [wqw]
   simp only [mkH, List.cons_append, List.nil_append] at e3
   (repeat' (first | (simp -implicitDefEqProofs (maxSteps := 2000000) (disch := first | with_reducible assumption | omega | (simp only [zS, zA, seval, wvf, zD] <;> omega) | fail) only [zS, argl, insA, Go.Den.wm, wo, wu, looks, wab, wz, idOf, riA, seval, Go.Den.wh, kK, wcb, wgb, wfd, wvf, wpi, wed, *, zT]) | (with_reducible (first | apply z1 | apply z2 | apply z3 | apply z4) <;> intro hq <;> (try simp only [zH] at hq) <;> (try (exfalso; omega))) | (with_reducible apply z5; (case hl => (repeat (first | exact .nil | with_reducible apply z6 | with_reducible apply z7))); (case h => kernel_rfl))))
end
end Go.Proofs.Ytjihbfdbgamcdaa
namespace Go.Proofs.Ytjihbfdbgamcdaa
set_option linter.unusedVariables false
set_option linter.unusedSimpArgs false
open Go.Den
noncomputable section
theorem and1 (y : Int) : 0 ≤ IntKind.wrap .i64 ((BitVec.ofInt (IntKind.bits .i64) y &&& BitVec.ofInt (IntKind.bits .i64) 1).toNat : Int) ∧ IntKind.wrap .i64 ((BitVec.ofInt (IntKind.bits .i64) y &&& BitVec.ofInt (IntKind.bits .i64) 1).toNat : Int) ≤ 1 := by
 have h : (BitVec.ofInt (IntKind.bits .i64) y &&& BitVec.ofInt (IntKind.bits .i64) 1).toNat ≤ 1 := by
  rw [BitVec.toNat_and]
  exact Nat.le_trans Nat.and_le_right (by decide)
 rw [wrap_i64 (by omega) (by omega)]
 omega
theorem PkOk.mono {ks ns : List Int} {ere : Bool} {args : List Value} {M N : Nat} (h : PkOk ks ns ere args M) (hMN : M ≤ N) : PkOk ks ns ere args N := by
 intro a g l ha hg hg3 hl hl2
 obtain ⟨r, a', g', l', e, b1, b2, b3, b4, b5, b6⟩ := h a g l (by omega) hg hg3 (by omega) hl2
 exact ⟨r, a', g', l', e, by omega, by omega, b3, b4, by omega, b6⟩
theorem row_step (ks ns : List Int) (ere : Bool) (deep : Int) (hd : 0 ≤ deep) (hd2 : deep ≤ 3) (M : Nat) (hM : M ≤ 6000) (hp : wbkc ks ns ere 106 [.int .i64 deep] M) : MkOk ks ns ere 62 [.int .i64 deep] (6 * M + 3) := by
 have p1 : PkOk ks ns ere [.int .i64 deep, .int .i64 1] (3 * M + 1) := (wtib ks ns ere deep 1 (by omega) M (by omega) hp 0 rfl).mono (by omega)
 have p2 : PkOk ks ns ere [.int .i64 deep, .int .i64 2] (3 * M + 1) := (wtib ks ns ere deep 2 (by omega) M (by omega) hp 1 rfl).mono (by omega)
 have p3 : PkOk ks ns ere [.int .i64 deep, .int .i64 3] (3 * M + 1) := (wtib ks ns ere deep 3 (by omega) M (by omega) hp 2 rfl).mono (by omega)
 intro a g l ha hg hg3 hl hl2
 by_cases hq : ere = true ∧ wkc (wdo ks a) 0 9 = 9 ∧ 4 < l - 1 ∧ deep < 3
 ·obtain ⟨rfl, c9, l4, d3⟩ := hq
  obtain ⟨f0, f1⟩ := and1 (wti ns a)
  generalize hf : IntKind.wrap .i64 ((BitVec.ofInt (IntKind.bits .i64) (wti ns a) &&& BitVec.ofInt (IntKind.bits .i64) 1).toNat : Int) = f at f0 f1
  have hpf : PkOk ks ns true [.int .i64 deep, .int .i64 (1 + f)] (3 * M + 1) := by
   rcases (show f = 0 ∨ f = 1 by omega) with rfl | rfl
   ·exact p1
   ·exact p2
  obtain ⟨r, a', g', l', e, b1, b2, b3, b4, b5, b6⟩ := row_alt ks ns deep hd (3 * M + 1) a g l f hf ⟨f0, f1⟩ hpf p1 (by omega) hg hg3 (by omega) hl2 c9 l4 d3
  exact ⟨r, a', g', l', e, by omega, by omega, b3, b4, by omega, b6⟩
 ·have hw := wtt (wti ns a)
  have hpw : PkOk ks ns ere [.int .i64 deep, .int .i64 (1 + wkc (wti ns a) 0 2)] (3 * M + 1) := by
   rcases (show wkc (wti ns a) 0 2 = 0 ∨ wkc (wti ns a) 0 2 = 1 ∨ wkc (wti ns a) 0 2 = 2 by omega) with h | h | h <;> rw [h]
   ·exact p1
   ·exact p2
   ·exact p3
  obtain ⟨r, a', g', l', e, b1, b2, b3, b4, b5, b6⟩ := wekc ks ns ere deep hd hd2 (3 * M + 1) a g l hpw (by omega) hg hg3 (by omega) hl2 hq
  exact ⟨r, a', g', l', e, by omega, by omega, b3, b4, by omega, b6⟩
theorem ev_row0 (ks ns : List Int) (ere : Bool) : MkOk ks ns ere 62 [.int .i64 0] 3999 := by
 have r3 := row_step ks ns ere 3 (by omega) (by omega) 2 (by omega) (wsib ks ns ere 3 (by omega) (by omega) 0 (fun h => by omega))
 have r2 := row_step ks ns ere 2 (by omega) (by omega) 17 (by omega) (wsib ks ns ere 2 (by omega) (by omega) 15 (fun _ => r3))
 have r1 := row_step ks ns ere 1 (by omega) (by omega) 107 (by omega) (wsib ks ns ere 1 (by omega) (by omega) 105 (fun _ => r2))
 have r0 := row_step ks ns ere 0 (by omega) (by omega) 647 (by omega) (wsib ks ns ere 0 (by omega) (by omega) 645 (fun _ => r1))
 intro a g l ha hg hg3 hl hl2
 obtain ⟨r, a', g', l', e, b1, b2, b3, b4, b5, b6⟩ := r0 a g l (by omega) hg hg3 (by omega) hl2
 exact ⟨r, a', g', l', e, by omega, by omega, b3, b4, by omega, b6⟩
theorem ev_Rx (ks ns : List Int) (ere : Bool) : ∃ r : Rx, wub r ≤ 3999 ∧ lim Try.prog cfg (.call 20 [.agg ⟨[FL ks.length (ints ks), FL ns.length (ints ns)]⟩, .bool ere]) (HP []) = some (.val (.agg ⟨rxC r⟩), HP []) := by
 obtain ⟨r, a', g', l', e, b1, b2, b3, b4, b5, b6⟩ := ev_row0 ks ns ere 0 0 14 (by omega) (by omega) (by omega) (by omega) (by omega)
 refine ⟨r, b1, ?_⟩
 clear b1 b2 b3 b4 b5 b6
 refine wkb hc wmt (Nat.le_of_ble_eq_true rfl) (Nat.le_of_ble_eq_true rfl) ?_
 unfold wrp
 simp only [mkH, mkB] at e
 rw [show ((0 : Nat) : Int) = 0 from rfl] at e
 (repeat' (first | (simp -implicitDefEqProofs (maxSteps := 2000000) (disch := first | with_reducible assumption | omega | (simp only [zS, zA, seval, wuk, zD] <;> omega) | fail) only [zS, argl, insA, Go.Den.wm, wo, wu, looks, wab, wz, idOf, riA, seval, Go.Den.wh, kK, *, zT]) | (with_reducible (first | apply z1 | apply z2 | apply z3 | apply z4) <;> intro hq <;> (try simp only [zH] at hq) <;> (try (exfalso; omega)))))
end
end Go.Proofs.Ytjihbfdbgamcdaa
namespace Go.Proofs.Ytjihbfdbgamcdaa
open Go.Den
noncomputable section
end
end Go.Proofs.Ytjihbfdbgamcdaa
namespace Go.Proofs.Ytjihbfdbgamcdaa
open Go.Den
noncomputable section
theorem hit_drop (s : List UInt8) (a : Nat) (h : a < s.length) : s.drop a = s.getD a 0 :: s.drop (a + 1) := by
 rw [List.drop_eq_getElem_cons h, List.getD_eq_getElem?_getD, List.getElem?_eq_getElem h]; rfl
end
end Go.Proofs.Ytjihbfdbgamcdaa
namespace Go.Proofs.Ytjihbfdbgamcdaa
open Go.Den
noncomputable section
def hasX (S : BitVec 256) (c : UInt8) : Bool := S.getLsbD c.toNat
theorem wrmb (s : List UInt8) (bol : Bool) (S : BitVec 256) (x : St) : wcg s bol (setX S) x = if x.1 < s.length ∧ hasX S (s.getD x.1.toNat 0) = true then [(x.1 + 1, x.2)] else [] := by
 rw [wcg, if_pos rfl]; rfl
def repL (S : BitVec 256) (mn mx : Int) : List UInt8 → Nat → Nat → List Nat
 | [], n, a => if mn ≤ n then [a] else []
 | c :: l, n, a => (if (mx < 0 ∨ n < mx) ∧ hasX S c = true then repL S mn mx l (n + 1) (a + 1) else []) ++ (if mn ≤ n then [a] else [])
theorem repL_ge {S : BitVec 256} {mn mx : Int} : ∀ (l : List UInt8) (n a : Nat), ∀ y ∈ repL S mn mx l n a, a ≤ y := by
 intro l
 induction l with
 | nil => intro n a y hy; rw [repL] at hy; split at hy <;> simp_all
 | cons c l ih =>
  intro n a y hy
  rw [repL, List.mem_append] at hy
  rcases hy with hy | hy
  ·split at hy
   ·have := ih _ _ y hy; omega
   ·cases hy
  ·split at hy <;> simp_all
theorem wsmb {s : List UInt8} {a : Nat} (h : s.drop a = []) : s.length ≤ a := by
 have := congrArg List.length h
 rw [List.length_drop, List.length_nil] at this; omega
theorem wtmb {s : List UInt8} {a : Nat} {c : UInt8} {l : List UInt8} (h : s.drop a = c :: l) : a < s.length ∧ s.getD a 0 = c ∧ s.drop (a + 1) = l := by
 have hl : a < s.length := by
  have := congrArg List.length h
  rw [List.length_drop, List.length_cons] at this; omega
 rw [hit_drop s a hl] at h
 injection h with h1 h2
 exact ⟨hl, h1, h2⟩
theorem on_set {s : List UInt8} {S : BitVec 256} {mn mx : Int} {m : Mt} {w : St → List St} (hw : ∀ (a : Nat), w ((a : Int), m) = if a < s.length ∧ hasX S (s.getD a 0) = true then [((a : Int) + 1, m)] else []) :
  ∀ (l : List UInt8) (k n a : Nat) (met : List (Int × St)), s.drop a = l → l.length < k → (∀ q ∈ met, q.2.1 < (a : Int)) →
   (onF w mn mx k n ((a : Int), m) (met, [])).2 = (repL S mn mx l n a).map fun b : Nat => ((b : Int), m) := by
 intro l
 induction l with
 | nil =>
  intro k n a met hd hk hm
  obtain ⟨k, rfl⟩ : ∃ j, k = j + 1 := ⟨k - 1, by simp at hk; omega⟩
  have hk' : keyF mn mx (n : Int) ((a : Int), m) ∉ met := fun h => by have := hm _ h; exact absurd this (Int.lt_irrefl _)
  have hw0 : w ((a : Int), m) = [] := by rw [hw, if_neg (fun h => absurd h.1 (by have := wsmb hd; omega))]
  rw [onF, if_neg hk', hw0, repL]
  simp only [List.foldl_nil, ite_self, ge_iff_le]
  by_cases h : mn ≤ (n : Int)
  ·rw [if_pos h, if_pos h]; rfl
  ·rw [if_neg h, if_neg h]; rfl
 | cons c l ih =>
  intro k n a met hd hk hm
  obtain ⟨k, rfl⟩ : ∃ j, k = j + 1 := ⟨k - 1, by simp at hk; omega⟩
  obtain ⟨hl, hc, hd1⟩ := wtmb hd
  have hk' : keyF mn mx (n : Int) ((a : Int), m) ∉ met := fun h => by have := hm _ h; exact absurd this (Int.lt_irrefl _)
  have hih := ih k (n + 1) (a + 1) (met ++ [keyF mn mx (n : Int) ((a : Int), m)]) hd1 (by simp at hk; omega) (by
   intro q hq
   rcases List.mem_append.1 hq with h | h
   ·have := hm q h; omega
   ·rw [List.mem_singleton] at h; subst h; show (a : Int) < _; omega)
  rw [onF, if_neg hk', hw, hc, repL]
  have hout : (if mx < 0 ∨ (n : Int) < mx then (if a < s.length ∧ hasX S c = true then [((a : Int) + 1, m)] else []).foldl (fun b y => if y.1 ≠ ((a : Int), m).1 ∨ (n : Int) < mn then onF w mn mx k ((n : Int) + 1) y b else b) (met ++ [keyF mn mx (n : Int) ((a : Int), m)], []) else (met ++ [keyF mn mx (n : Int) ((a : Int), m)], [])).2
    = (if (mx < 0 ∨ (n : Int) < mx) ∧ hasX S c = true then repL S mn mx l (n + 1) (a + 1) else []).map fun b : Nat => ((b : Int), m) := by
   by_cases h1 : mx < 0 ∨ (n : Int) < mx
   ·rw [if_pos h1]
    by_cases h2 : hasX S c = true
    ·rw [if_pos ⟨hl, h2⟩, if_pos ⟨h1, h2⟩]
     show (if ((a : Int) + 1 ≠ (a : Int) ∨ (n : Int) < mn) then onF w mn mx k ((n : Int) + 1) ((a : Int) + 1, m) (met ++ [keyF mn mx (n : Int) ((a : Int), m)], []) else _).2 = _
     rw [if_pos (.inl (by omega))]
     exact hih
    ·rw [if_neg (fun h => h2 h.2), if_neg (fun h => h2 h.2)]; rfl
   ·rw [if_neg h1, if_neg (fun h => h1 h.1)]; rfl
  generalize (if mx < 0 ∨ (n : Int) < mx then (if a < s.length ∧ hasX S c = true then [((a : Int) + 1, m)] else []).foldl (fun b y => if y.1 ≠ ((a : Int), m).1 ∨ (n : Int) < mn then onF w mn mx k ((n : Int) + 1) y b else b) (met ++ [keyF mn mx (n : Int) ((a : Int), m)], []) else (met ++ [keyF mn mx (n : Int) ((a : Int), m)], [])) = B at hout ⊢
  simp only [ge_iff_le]
  by_cases h : mn ≤ (n : Int)
  ·rw [if_pos h, if_pos h, List.map_append, ← hout]
   show addF B.2 [((a : Int), m)] = B.2 ++ [((a : Int), m)]
   rw [wdp, wwab, if_neg]
   intro hin
   rw [hout] at hin
   obtain ⟨y, hy, he⟩ := List.mem_map.1 hin
   have e1 : (y : Int) = a := congrArg Prod.fst he
   split at hy
   ·have := repL_ge _ _ _ y hy; omega
   ·cases hy
  ·rw [if_neg h, if_neg h, List.append_nil, ← hout]
theorem whkc (s : List UInt8) (hs : s.length < 100) (bol : Bool) (S : BitVec 256) (mn mx : Int) (a : Nat) (m : Mt) :
  wcg s bol (repX mn mx S) ((a : Int), m) = (repL S mn mx (s.drop a) 0 a).map fun b : Nat => ((b : Int), m) := by
 rw [wcg, if_neg (by decide), if_neg (by decide), if_neg (by decide), if_neg (by decide), if_neg (by decide), if_neg (by decide), if_neg (by decide), if_pos rfl]
 refine on_set (s := s) (S := S) (w := fun y => kidF s bol [setX S] y) (fun b => ?_) (s.drop a) 100 0 a [] rfl (by rw [List.length_drop]; omega) (fun q hq => by cases hq)
 show wcg s bol (setX S) ((b : Int), m) = _
 rw [wrmb]
 by_cases h : b < s.length ∧ hasX S (s.getD b 0) = true
 ·rw [if_pos h, if_pos ⟨by show (b : Int) < _; omega, h.2⟩]
 ·rw [if_neg h, if_neg (fun hh => h ⟨by have h1 : (b : Int) < s.length := hh.1; omega, hh.2⟩)]
def runX (S : BitVec 256) : List UInt8 → Nat
 | [] => 0
 | c :: l => if hasX S c = true then runX S l + 1 else 0
def topX (S : BitVec 256) (mx : Int) : List UInt8 → Nat → Nat
 | [], n => n
 | c :: l, n => if (mx < 0 ∨ (n : Int) < mx) ∧ hasX S c = true then topX S mx l (n + 1) else n
theorem runX_len {S : BitVec 256} : ∀ (l : List UInt8), runX S l ≤ l.length := by
 intro l
 induction l with
 | nil => exact Nat.le_refl _
 | cons c l ih => rw [runX]; split <;> simp <;> omega
theorem topX_ge {S : BitVec 256} {mx : Int} : ∀ (l : List UInt8) (n : Nat), n ≤ topX S mx l n := by
 intro l
 induction l with
 | nil => intro n; exact Nat.le_refl _
 | cons c l ih => intro n; rw [topX]; split; (have := ih (n + 1); omega); exact Nat.le_refl _
theorem topX_any {S : BitVec 256} {mx : Int} (h : mx < 0) : ∀ (l : List UInt8) (n : Nat), topX S mx l n = n + runX S l := by
 intro l
 induction l with
 | nil => intro n; rfl
 | cons c l ih =>
  intro n
  rw [topX, runX]
  by_cases hc : hasX S c = true
  ·rw [if_pos ⟨.inl h, hc⟩, if_pos hc, ih]; omega
  ·rw [if_neg (fun hh => hc hh.2), if_neg hc]; omega
theorem repL_asc {S : BitVec 256} {mn : Nat} {mx : Int} (i : Nat) : ∀ (l : List UInt8) (n : Nat),
  (repL S mn mx l n (i + n)).reverse = (List.range' (max n mn) (topX S mx l n + 1 - max n mn)).map (i + ·) := by
 intro l
 induction l with
 | nil =>
  intro n
  rw [repL, topX]
  by_cases h : (mn : Int) ≤ n
  ·rw [if_pos h, show max n mn = n by omega, show n + 1 - n = 1 by omega]; rfl
  ·rw [if_neg h, show n + 1 - max n mn = 0 by omega]; rfl
 | cons c l ih =>
  intro n
  have h1 := ih (n + 1)
  rw [repL, topX, List.reverse_append, show i + n + 1 = i + (n + 1) by omega]
  have hg := topX_ge (S := S) (mx := mx) l (n + 1)
  by_cases hc : (mx < 0 ∨ (n : Int) < mx) ∧ hasX S c = true
  ·rw [if_pos hc, if_pos hc, h1]
   by_cases h : (mn : Int) ≤ n
   ·rw [if_pos h, show max n mn = n by omega, show max (n + 1) mn = n + 1 by omega, show topX S mx l (n + 1) + 1 - n = (topX S mx l (n + 1) + 1 - (n + 1)) + 1 by omega, List.range'_succ, List.map_cons]
    rfl
   ·rw [if_neg h, show max n mn = mn by omega, show max (n + 1) mn = mn by omega]; rfl
  ·rw [if_neg hc, if_neg hc]
   by_cases h : (mn : Int) ≤ n
   ·rw [if_pos h, show max n mn = n by omega, show n + 1 - n = 1 by omega]; rfl
   ·rw [if_neg h, show n + 1 - max n mn = 0 by omega]; rfl
end
end Go.Proofs.Ytjihbfdbgamcdaa
namespace Go.Proofs.Ytjihbfdbgamcdaa
open Go.Den
noncomputable section
end
end Go.Proofs.Ytjihbfdbgamcdaa
namespace Go.Den
noncomputable section
theorem neq2 {a b c d : Int} : eqcV true [.int .i64, .int .i64] (.agg ⟨[.int .i64 a, .int .i64 b]⟩) (.agg ⟨[.int .i64 c, .int .i64 d]⟩) = val (.bool (!(decide (a = c) && decide (b = d)))) := by
 rw [wqec rfl rfl]
 show val (.bool (!((a == c) && ((b == d) && true)))) = _
 rw [Bool.and_true]; rfl
end
end Go.Den
namespace Go.Proofs.Ytjihbfdbgamcdaa
open Go.Den
noncomputable section
end
end Go.Proofs.Ytjihbfdbgamcdaa
namespace Go.Proofs.Ytjihbfdbgamcdaa
set_option linter.unusedVariables false
set_option linter.unusedSimpArgs false
open Go.Den
noncomputable section
end
end Go.Proofs.Ytjihbfdbgamcdaa
namespace Go.Proofs.Ytjihbfdbgamcdaa
set_option linter.unusedVariables false
set_option linter.unusedSimpArgs false
open Go.Den
noncomputable section
theorem of2_end (x y : Nat) (z s : BitVec 256) :
  lim Try.prog cfg (.loop 37 0 (wso 0) (SE (EJ 23 G0) [(8, .int .i64 2), (7, .int .i64 2), (6, FL 2 [.int .u8 x, .int .u8 y]), (3, .pointer (some ⟨1, 0, none⟩)), (2, .pointer (some ⟨0, 0, none⟩))])) (HP (bsB z s)) = some (.code (.exit 0) (SE (EJ 23 G0) [(3, .pointer (some ⟨1, 0, none⟩)), (2, .pointer (some ⟨0, 0, none⟩))]), HP (bsB z s)) := by
 refine web wot ?_
 unfold wnt
 (repeat' (first | (simp -implicitDefEqProofs (maxSteps := 2000000) (disch := first | with_reducible assumption | omega | (simp only [zS, zA, seval, wkd, zD] <;> omega) | fail) only [zS, argl, insA, Go.Den.wm, wo, wu, looks, wab, wz, idOf, riA, seval, Go.Den.wh, kK, wst, *, zT]) | (with_reducible (first | apply z1 | apply z2 | apply z3 | apply z4) <;> intro hq <;> (try simp only [zH] at hq) <;> (try (exfalso; omega)))))
theorem wxtb (x y : Nat) (i : Nat) (v : Nat) (hi : i < 2) (hv : ([.int .u8 x, .int .u8 y] : List Value)[i]? = some (.int .u8 v)) (hx : v < 256) (z s : BitVec 256) (o : Out × AH)
  (h : lim Try.prog cfg (.loop 37 0 (wso 0) (SE (EJ 23 G0) [(8, .int .i64 ((i : Int) + 1)), (7, .int .i64 2), (6, FL 2 [.int .u8 x, .int .u8 y]), (3, .pointer (some ⟨1, 0, none⟩)), (2, .pointer (some ⟨0, 0, none⟩))])) (HP (bsB z (s ||| one v))) = some o) :
  lim Try.prog cfg (.loop 37 0 (wso 0) (SE (EJ 23 G0) [(8, .int .i64 i), (7, .int .i64 2), (6, FL 2 [.int .u8 x, .int .u8 y]), (3, .pointer (some ⟨1, 0, none⟩)), (2, .pointer (some ⟨0, 0, none⟩))])) (HP (bsB z s)) = some o := by
 rw [← or_one s v hx] at h
 refine web wot ?_
 unfold wnt
 have h1 : BitVec.ofInt (IntKind.bits .u64) 1 = BitVec.ofInt (IntKind.bits .u64) (((1#64).toNat : Nat) : Int) := rfl
 have e1 : ((v : Int) / 64).toNat = v / 64 := by omega
 have e2 : ((v : Int) % 64).toNat = v % 64 := by omega
 have hs : IntKind.wrap .u64 (1 * 2 ^ (min (v % 64) (IntKind.bits .u64))) = ((1#64 <<< (v % 64)).toNat : Nat) := by
  have := wdic (b := ((v % 64 : Nat) : Int)) (by omega) (by omega)
  rwa [Int.toNat_natCast] at this
 have ho := or_u64 (wd s (v / 64)) (1#64 <<< (v % 64))
 have hset := wcib s (show v / 64 < 4 by omega) (wd s (v / 64) ||| (1#64 <<< (v % 64)))
 (repeat' (first | (simp -implicitDefEqProofs (maxSteps := 2000000) (disch := first | with_reducible assumption | omega | (simp only [zS, zA, seval, wkd, zD] <;> omega) | fail) only [zS, argl, insA, Go.Den.wm, wo, wu, looks, wab, wz, idOf, riA, seval, Go.Den.wh, kK, wst, wuab, wob, *, zT]) | (with_reducible (first | apply z1 | apply z2 | apply z3 | apply z4) <;> intro hq <;> (try simp only [zH] at hq) <;> (try (exfalso; omega)))))
 all_goals exact h
theorem ev_Of2 (x y : Nat) (hx : x < 256) (hy : y < 256) : lim Try.prog cfg (.call 37 [FL 2 [.int .u8 x, .int .u8 y]]) (HP []) = some (.val (.agg ⟨setC (one x ||| one y)⟩), HP []) := by
 have h := wxtb x y 0 x (by omega) rfl hx 0#256 0#256 _ (wxtb x y 1 y (by omega) rfl hy 0#256 (0#256 ||| one x) _ (of2_end x y 0#256 _))
 rw [show (0#256 ||| one x) = one x by simp] at h
 unfold bsB at h
 rw [show setC 0#256 = [.int .u64 0, .int .u64 0, .int .u64 0, .int .u64 0] from rfl, show ((0 : Nat) : Int) = 0 from rfl] at h
 refine wkb hc wbib (Nat.le_of_ble_eq_true rfl) (Nat.le_of_ble_eq_true rfl) ?_
 unfold wofb
 (repeat' (first | (simp -implicitDefEqProofs (maxSteps := 2000000) (disch := first | with_reducible assumption | omega | (simp only [zS, zA, seval, wkd, zD] <;> omega) | fail) only [zS, argl, insA, Go.Den.wm, wo, wu, looks, wab, wz, idOf, riA, seval, Go.Den.wh, kK, wst, *, zT]) | (with_reducible (first | apply z1 | apply z2 | apply z3 | apply z4) <;> intro hq <;> (try simp only [zH] at hq) <;> (try (exfalso; omega)))))
abbrev rxM (S : BitVec 256) : List Value := [.int .i64 1, .int .i64 0, .int .i64 0, .int .i64 0, wdV S 0, wdV S 1, wdV S 2, wdV S 3, .slice none 0 0]
abbrev rxF0 (S : BitVec 256) : List Value := [.int .i64 1, .int .i64 0, .int .i64 0, .int .i64 0, wdV S 0, wdV S 1, wdV S 2, wdV S 3, FL 0 []]
end
end Go.Proofs.Ytjihbfdbgamcdaa
namespace Go.Den
noncomputable section
variable {P : Program}
abbrev Y (cs : List Value) (elem : TypeId) (esz : Nat) (lens : List Nat) (z : Nat) : ABlk := .cells { cells := cs, elem := elem, esz := esz, lens := lens, wver := 0, frz := z, mark := false, pf := true }
section
variable {h : List ABlk} {i : Nat} {cs : List Value} {elem : TypeId} {esz a z : Nat}
theorem Y_lt {b : ABlk} (hb : h[i]? = some b) : i < h.length := (List.getElem?_eq_some_iff.1 hb).1
theorem rd_Y (hh : h.length ≤ 1099511627774) (hb : h[i]? = some (Y cs elem esz [a] z)) {off n : Nat} :
  wzi (HP h) ⟨i, off, some 0⟩ n = if off + n ≤ a then some { cells := cs, elem := elem, esz := esz, lens := [a], wver := 0, frz := z, mark := false, pf := true } else none := by
 unfold wzi
 rw [wyg h hh, hb]
 have h1 : rdOk { cells := cs, elem := elem, esz := esz, lens := [a], wver := 0, frz := z, mark := false, pf := true } (aver ⟨i, off, some 0⟩) (off + n) = decide (off + n ≤ a) := by
  show (Nat.ble 0 0 && (Nat.ble 0 0 && Nat.ble (off + n) a)) = _
  rw [nble, nble]; simp
 simp only [h1]
 by_cases hq : off + n ≤ a
 ·rw [if_pos hq, decide_eq_true hq]; rfl
 ·rw [if_neg hq, decide_eq_false hq]; rfl
theorem load1_Y (hh : h.length ≤ 1099511627774) (hb : h[i]? = some (Y cs elem esz [a] z)) {off : Nat} (ho : off + 1 ≤ a) : wjn (HP h) (.pointer (some ⟨i, off, some 0⟩)) = valO cs[off]? := by
 unfold wjn
 simp only [rd_Y hh hb, if_pos ho]
theorem store_Y (hh : h.length ≤ 1099511627774) (hb : h[i]? = some (Y cs elem esz [a] 0)) {off size : Nat} {v : Value} (hs : off + size ≤ a)
  (hv : v.cells.size = size) (hj : isJK v = false) (ho : v.cells.toList.all oneCell = true) (hr : wqb v.cells.toList = true) :
  wss (HP h) size (.pointer (some ⟨i, off, some 0⟩)) v = .eff undef (HP (h.set i (Y (wm cs off v.cells.toList) elem esz [a] 0))) := by
 have hi := Y_lt hb
 have hlen : v.cells.toList.length = size := by rw [← hv]; simp
 unfold wss
 simp only [hv, hj, Nat.beq_refl, Bool.not_false, Bool.and_self, cond_true]
 unfold wgf wkac
 rw [rd_Y hh hb, hlen, if_pos hs]
 have h1 : (Nat.beq (aver ⟨i, off, some 0⟩) (CBlk.top { cells := cs, elem := elem, esz := esz, lens := [a], wver := 0, frz := 0, mark := false, pf := true }) && (Nat.ble 0 off && wac i)) = true := by
  rw [show wac i = true from wrg (by omega), nble, decide_eq_true (Nat.zero_le _)]; rfl
 simp only [h1, cond_true, ho]
 rw [wfo _ _ _ hi]
 simp only [hr]
 rfl
theorem wikc (hh : h.length ≤ 1099511627774) {n : Nat} {sl : List Value → Option (List Value × Frs)} (hb : h[i]? = some (Y cs elem esz [a] z)) (h0 : 0 < n) (hz : 0 < esz) (ha : n * esz ≤ a) (hr : wqb (slotsOf cs 0 (n * esz)) = true) :
  wpg P (HP h) sl (.slice (some ⟨i, 0, some 0⟩) n 0) = some (FL n (slotsOf cs 0 (n * esz)), [(i, n * esz)]) := by
 obtain ⟨n, rfl⟩ : ∃ m, n = m + 1 := ⟨n - 1, by omega⟩
 have hi := Y_lt hb
 show wyn P (HP h) sl ⟨i, 0, some 0⟩ (n + 1) 0 = _
 unfold wyn
 rw [wyg h hh, hb]
 have e1 : wxh P { cells := cs, elem := elem, esz := esz, lens := [a], wver := 0, frz := z, mark := false, pf := true } = esz := rfl
 have h2 : wzgb (HP h) esz (n + 1) ⟨i, 0, some 0⟩ 0 = true := by
  show wbm esz ⟨i, 0, some 0⟩ (HP h) ((n + 1) * esz) = true
  unfold wbm
  rw [rd_Y hh hb, if_pos (by omega)]
  show (Nat.beq esz esz && (true && (Nat.beq (0 % esz) 0 && Nat.blt 0 esz))) = true
  rw [nbeq, nblt, decide_eq_true rfl, decide_eq_true hz, Nat.zero_mod]; rfl
 have h3 : rdOk { cells := cs, elem := elem, esz := esz, lens := [a], wver := 0, frz := z, mark := false, pf := true } (aver ⟨i, 0, some 0⟩) (0 + (n + 1) * esz) = true := by
  show (Nat.ble 0 0 && (Nat.ble 0 0 && Nat.ble (0 + (n + 1) * esz) a)) = true
  rw [nble, nble, decide_eq_true (Nat.le_refl 0), decide_eq_true (show 0 + (n + 1) * esz ≤ a by omega)]; rfl
 simp only [e1, h2, h3, Bool.and_self, cond_true, hr, wrg (show i ≤ 1099511627774 by omega)]
 rw [Nat.zero_add]
theorem wqe {n : Nat} : wdtb h i n (some (Y cs elem esz [a] z)) = h.set i (Y cs elem esz [a] (max z n)) := rfl
theorem wre {t y : Nat} {pf : Bool} : isOpen (some (X cs t y pf)) = false := rfl
theorem wpc {es : List (Value × Value)} : isOpen (some (.map es)) = false := rfl
theorem wqc {x y w : Nat} : isOpen (some (.tok x y w)) = false := rfl
theorem wse {r : List Nat} : isOpen (some (Y cs elem esz (a :: r) z)) = true := rfl
theorem wdg {r : List Nat} : wyh (some (Y cs elem esz (a :: r) z)) = r.length := rfl
theorem weg {r : List Nat} : wzu (some (Y cs elem esz r z)) = [] := rfl
end
def wedb (id t : Nat) : List (Nat × Nat) → Bool
 | [] => true
 | r :: l => (bif decide (r.1 = id) then decide (r.2 = t) else true) && wedb id t l
theorem wrc {id t : Nat} : wedb id t [] = true := rfl
theorem wfc {id t x y : Nat} {l : List (Nat × Nat)} : wedb id t ((x, y) :: l) = ((bif decide (x = id) then decide (y = t) else true) && wedb id t l) := rfl
def wjkc (h : List ABlk) (rs : List (Nat × Nat)) (p ix id : Nat) : Bool := decide (p ≤ ix) && (isOpen h[id]? && wedb id (wyh h[id]?) rs)
def wfdb (h : List ABlk) (rs : List (Nat × Nat)) (p : Nat) : List Nat → Nat → List (Nat × Bool)
 | [], _ => []
 | id :: r, ix => (id, wjkc h rs p ix id) :: wfdb h rs p r (ix + 1)
theorem wqd {h : List ABlk} {rs : List (Nat × Nat)} {p ix : Nat} : wfdb h rs p [] ix = [] := rfl
theorem wsc {h : List ABlk} {rs : List (Nat × Nat)} {p ix id : Nat} {r : List Nat} : wfdb h rs p (id :: r) ix = (id, decide (p ≤ ix) && (isOpen h[id]? && wedb id (wyh h[id]?) rs)) :: wfdb h rs p r (ix + 1) := rfl
theorem wkzb {id t : Nat} (rs : List (Nat × Nat)) : (rs.all fun r => bif Nat.beq r.1 id then Nat.beq r.2 t else true) = wedb id t rs := by
 induction rs with
 | nil => rfl
 | cons r l ih => rw [List.all_cons, ih, nbeq, nbeq]; rfl
theorem cmps_L {h : List ABlk} (hh : h.length ≤ 1099511627774) (rs : List (Nat × Nat)) (p : Nat) : ∀ (L : List Nat) (ix : Nat), wqg (HP h) rs p L ix = wfdb h rs p L ix := by
 intro L
 induction L with
 | nil => intro ix; rfl
 | cons id r ih =>
  intro ix
  show (id, wxy (HP h) rs p ix id) :: wqg (HP h) rs p r (ix + 1) = _
  rw [ih]
  have : wxy (HP h) rs p ix id = wjkc h rs p ix id := by
   unfold wxy wjkc
   rw [wyg h hh, wkzb, nble]
  rw [this]
  rfl
def renC (m : Nm) (c : Bool) : Option ABlk → ABlk
 | some (.cells b) => bif c then .cells { b with cells := (bif b.pf then b.cells else wne m b.cells), lens := [b.lenAt b.top], wver := 0 } else .cells { b with cells := (bif b.pf then b.cells else wne m b.cells) }
 | some (.map es) => .map (renM m es)
 | some (.tok a b c) => .tok a b c
 | none => .map []
def wlrb (h : List ABlk) (m : Nm) : List (Nat × Bool) → List ABlk
 | [] => []
 | c :: r => renC m c.2 h[c.1]? :: wlrb h m r
theorem wrd {h : List ABlk} {m : Nm} : wlrb h m [] = [] := rfl
theorem wtc {h : List ABlk} {m : Nm} {id : Nat} {c : Bool} {r : List (Nat × Bool)} : wlrb h m ((id, c) :: r) = renC m c h[id]? :: wlrb h m r := rfl
theorem wdj {m : Nm} {cs : List Value} {t z : Nat} {pf : Bool} : renC m false (some (X cs t z pf)) = X (bif pf then cs else wne m cs) t z pf := rfl
theorem wte {m : Nm} {c : Bool} {es : List (Value × Value)} : renC m c (some (.map es)) = .map (renM m es) := rfl
theorem wue {m : Nm} {q : Bool} {a b c : Nat} : renC m q (some (.tok a b c)) = .tok a b c := rfl
theorem wfg {m : Nm} {cs : List Value} {elem : TypeId} {esz a z : Nat} {r : List Nat} : renC m true (some (Y cs elem esz (a :: r) z)) = Y cs elem esz [a] z := by
 show ABlk.cells { cells := cs, elem := elem, esz := esz, lens := [CBlk.lenAt { cells := cs, elem := elem, esz := esz, lens := a :: r, wver := 0, frz := z, mark := false, pf := true } r.length], wver := 0, frz := z, mark := false, pf := true } = _
 have : CBlk.lenAt { cells := cs, elem := elem, esz := esz, lens := a :: r, wver := 0, frz := z, mark := false, pf := true } r.length = a := by
  show (a :: r).getD (r.length - r.length) 0 = a
  rw [Nat.sub_self]; rfl
 rw [this]
theorem wgg {m : Nm} {cs : List Value} {elem : TypeId} {esz z : Nat} {r : List Nat} : renC m false (some (Y cs elem esz r z)) = Y cs elem esz r z := rfl
theorem renBs_L {h : List ABlk} (hh : h.length ≤ 1099511627774) (m : Nm) : ∀ (cs : List (Nat × Bool)), hasL h (cs.map (·.1)) = true → wjq (HP h) m cs = (wlrb h m cs).map some := by
 intro cs
 induction cs with
 | nil => intro _; rfl
 | cons c r ih =>
  obtain ⟨id, c⟩ := c
  intro hq
  simp only [List.map_cons, hasL, Bool.and_eq_true] at hq
  simp only [List.map_cons, wjq, wlrb, ih hq.2, wyg h hh]
  cases hb : h[id]? with
  | none => rw [hb] at hq; cases hq.1
  | some b =>
   cases b with
   | cells b => cases c <;> rfl
   | map es => rfl
   | tok x y w => rfl
theorem wkkc {h : List ABlk} {rs : List (Nat × Nat)} {p : Nat} : ∀ (L : List Nat) (ix : Nat), (wfdb h rs p L ix).map (·.1) = L := by
 intro L
 induction L with
 | nil => intro ix; rfl
 | cons id r ih => intro ix; rw [wfdb, List.map_cons, ih]
def wmrb (h : List ABlk) : List Nat → List Nat
 | [] => []
 | id :: r => waw h[id]? ++ wmrb h r
theorem wuib {h : List ABlk} (hh : h.length ≤ 1099511627774) (L : List Nat) : wwi (HP h) L = wmrb h L := by
 induction L with
 | nil => rfl
 | cons id r ih => simp only [wwi, wmrb, wyg h hh, ih]
theorem wsd {h : List ABlk} : wmrb h [] = [] := rfl
theorem wuc {h : List ABlk} {id : Nat} {r : List Nat} : wmrb h (id :: r) = waw h[id]? ++ wmrb h r := rfl
theorem whg {cs : List Value} {elem : TypeId} {esz z : Nat} {r : List Nat} : waw (some (Y cs elem esz r z)) = [] := rfl
theorem wve {cs : List Value} {t z : Nat} : waw (some (X cs t z true)) = [] := rfl
theorem wwe {cs : List Value} {t z : Nat} : waw (some (X cs t z false)) = wxp cs := rfl
theorem wvc : wxp [] = [] := rfl
theorem wgc {v : Value} {l : List Value} : wxp (v :: l) = toks v ++ wxp l := rfl
theorem wwc {v : Value} (h : wmr v = true) : toks v = [] := (wbo h).toks
theorem wig {a : Option Addr} {n c : Nat} : toks (.slice a n c) = [] := rfl
theorem wjg {a : Option Addr} : toks (.pointer a) = [] := rfl
theorem wlzb {cs : List (Nat × Bool)} : wsz cs [] = true := rfl
theorem wxe {cs : List Value} {elem : TypeId} {esz a z : Nat} {r : List Nat} : wnv (Y cs elem esz (a :: r) z) = false := rfl
theorem wtd {h : List ABlk} (hx : h.all wnv = false) (hh : h.length ≤ 1099511627774) {p : Nat} {vs : List Value} {L : List Nat} (h1 : (wkx L && (pins p L 0 && (hasL h L && (wiv L (wjf vs ++ whab h L) && wac L.length)))) = true)
  (h2 : wxp vs ++ wmrb h L = []) :
  normX h p vs (some L) = some ⟨L, nmOf L (wfdb h (wjf vs ++ whab h L) p L 0), HP (wlrb h (nmOf L (wfdb h (wjf vs ++ whab h L) p L 0)) (wfdb h (wjf vs ++ whab h L) p L 0))⟩ := by
 show wrdb (HP h) p vs (some L) = _
 simp only [Bool.and_eq_true] at h1
 obtain ⟨a1, a2, a3, a4, a5⟩ := h1
 unfold wrdb
 simp only []
 rw [wnr hh, cmps_L hh, wctb hh, wuib hh, h2, a1, a2, a3, a4, a5, wlzb]
 simp only [Bool.and_self, cond_true]
 rw [renBs_L hh _ _ (by rw [wkkc]; exact a3)]
 congr 2
 exact wqlb _ []
theorem wkg {L : List Nat} {cs : List (Nat × Bool)} {id ver : Nat} : nmOf L cs id ver = (idxOf id L 0, bif wgh id cs then 0 else ver) := rfl
theorem wud {n : Nat} : wgh n [] = false := rfl
theorem wxc {n x : Nat} {b : Bool} {r : List (Nat × Bool)} : wgh n ((x, b) :: r) = bif decide (x = n) then b else wgh n r := by
 show (bif Nat.beq x n then b else wgh n r) = _
 rw [nbeq]
theorem wgd {i o v n c : Nat} (h : 0 < n) : refs (.slice (some ⟨i, o, some v⟩) n c) = [(i, v)] := by
 show (bif Nat.beq n 0 && Nat.ble c 1 then [] else [(i, v)]) = _
 rw [nbeq, decide_eq_false (by omega)]; rfl
theorem wfe {m : Nm} {i o v n c : Nat} (h : 0 < n) : renV m (.slice (some ⟨i, o, some v⟩) n c) = .slice (some ⟨(m i v).1, o, some (m i v).2⟩) n c := by
 show (bif Nat.beq n 0 && Nat.ble c 1 then Value.slice (some ⟨i, o, some v⟩) n c else .slice (some (renA m ⟨i, o, some v⟩)) n c) = _
 rw [nbeq, decide_eq_false (by omega)]; rfl
section
variable {rec : Rec} {f : FuncId}
theorem wyc {H : AH} {h : List ABlk} (hx : h.all wnv = false) (hh : h.length ≤ 1099511627774) {fr : Frs} {a : List Value} {L : List Nat} {m : Nm} {H2 : AH} : wrbb rec f H (HP h) fr a (some ⟨L, m, H2⟩) = wzo H (HP h) fr L (wfdb h (wjf a ++ whab h L) 0 L 0) (rec (.call f (wne m a)) H2) := by
 show wzo H (HP h) fr L (wqg (HP h) (wjf a ++ wtb (HP h) L) 0 L 0) _ = _
 rw [cmps_L hh, wnr hh]
theorem callS3_Y {H : AH} {h : List ABlk} (hh1 : h.length + 1 ≤ 1099511627774) {i : Nat} {cs ds : List Value} {elem t2 : TypeId} {esz e2 a a2 z z2 : Nat} (hb : h[i]? = some (Y cs elem esz [a] z)) :
  wzo H (HP h) [] [i] [(i, true)] (some (.val (.tuple ⟨[]⟩), HP [Y ds t2 e2 [a2] z2])) = .did (.tuple ⟨[]⟩) none true (HP (h.set i (Y ds t2 e2 [a2] (max z z2)))) (chg h (h.set i (Y ds t2 e2 [a2] (max z z2))) [i] []) := by
 have hh : h.length ≤ 1099511627774 := by omega
 have hi := Y_lt hb
 show wsm (HP h) [] [i] [(i, true)] (.tuple ⟨[]⟩) (HP [Y ds t2 e2 [a2] z2]) = _
 have hlen : ([Y ds t2 e2 [a2] z2] : List ABlk).length ≤ 1099511627774 := by simp
 have g0 : (HP [Y ds t2 e2 [a2] z2]).get 0 = some (Y ds t2 e2 [a2] z2) := by rw [wyg _ hlen]; rfl
 have t0 : wmn (HP h) [(i, true)] = [0] := by
  show [wyh ((HP h).get i)] = _
  rw [wyg h hh, hb]; rfl
 unfold wsm
 rw [t0, HP_n, HP_n]
 have k1 : wtz [i] = true := by
  show (wac i && true) = true
  rw [wrg (by omega)]; rfl
 have k2 : wac (h.length + ([Y ds t2 e2 [a2] z2] : List ABlk).length) = true := wrg hh1
 have k3 : wzp (HP [Y ds t2 e2 [a2] z2]) ([Y ds t2 e2 [a2] z2] : List ABlk).length 0 = [] := by
  show waw ((HP [Y ds t2 e2 [a2] z2]).get 0) ++ [] = []
  rw [g0]; rfl
 have k4 : wyp (HP [Y ds t2 e2 [a2] z2]) [(i, true)] 0 = true := by
  show (isOpen ((HP [Y ds t2 e2 [a2] z2]).get 0) && true) = true
  rw [g0]; rfl
 have k5 : hasAll (HP [Y ds t2 e2 [a2] z2]) (upto ([i] : List Nat).length) = true := by
  show (((HP [Y ds t2 e2 [a2] z2]).get 0).isSome && true) = true
  rw [g0]; rfl
 rw [k1, k2, k3, k4, k5]
 have k6 : wuz ([i] : List Nat).length [0] (toks (.tuple ⟨[]⟩) ++ []) = true := rfl
 have k7 : Nat.ble ([i] : List Nat).length ([Y ds t2 e2 [a2] z2] : List ABlk).length = true := rfl
 rw [k6, k7]
 simp only [Bool.and_self, cond_true]
 have k8 : wyo (wbs h.length ([i] : List Nat).length [i] [0]) (HP h) (HP [Y ds t2 e2 [a2] z2]) [(i, true)] 0 (HP h) = HP (h.set i (Y ds t2 e2 [a2] (max z z2))) := by
  show setO (HP h) i (wsk _ true (wyh ((HP h).get i)) (wahb ((HP h).get i)) ((HP [Y ds t2 e2 [a2] z2]).get 0)) = _
  rw [g0, wyg h hh, hb]
  show (HP h).set i _ = _
  rw [wfo _ _ _ hi]
  rfl
 rw [k8]
 rfl
theorem wvd : toks (.tuple ⟨[]⟩) = [] := rfl
theorem wlg {m : Nm} : renV m (.tuple ⟨[]⟩) = .tuple ⟨[]⟩ := rfl
end
def isOne : List Nat → Bool
 | [_] => true
 | _ => false
def canY : Option ABlk → Bool
 | some (.cells b) => isOne b.lens && (Nat.beq b.wver 0 && (b.pf && !b.mark))
 | _ => false
theorem wej {cs : List Value} {elem : TypeId} {esz a z : Nat} : canY (some (Y cs elem esz [a] z)) = true := rfl
theorem wvt {o : Option ABlk} (h : canY o = true) : ∃ cs elem esz a z, o = some (Y cs elem esz [a] z) := by
 unfold canY at h
 split at h
 ·rename_i b
  obtain ⟨cs, elem, esz, lens, w, z, mk, pf⟩ := b
  simp only [Bool.and_eq_true] at h
  obtain ⟨h1, h2, h3, h4⟩ := h
  have e2 : w = 0 := Nat.eq_of_beq_eq_true h2
  have e3 : pf = true := h3
  have e4 : mk = false := by cases mk with | false => rfl | true => cases h4
  match lens, h1 with
  | [a], _ => subst e2 e3 e4; exact ⟨cs, elem, esz, a, z, rfl⟩
 ·cases h
def wlkc : List Nat → Nat
 | [] => 0
 | a :: _ => a
def ldY (off : Nat) : Option ABlk → ARes
 | some (.cells b) => bif Nat.ble (off + 1) (wlkc b.lens) then valO b.cells[off]? else .none
 | _ => .none
theorem wwd {h : List ABlk} (hh : h.length ≤ 1099511627774) {i off : Nat} (hc : canY h[i]? = true) : wjn (HP h) (.pointer (some ⟨i, off, some 0⟩)) = ldY off h[i]? := by
 obtain ⟨cs, elem, esz, a, z, hb⟩ := wvt hc
 rw [hb]
 show _ = bif Nat.ble (off + 1) a then valO cs[off]? else .none
 by_cases hq : off + 1 ≤ a
 ·rw [load1_Y hh hb hq, nble, decide_eq_true hq]; rfl
 ·rw [nble, decide_eq_false hq]
  unfold wjn
  simp only [rd_Y hh hb, if_neg hq]
  rfl
theorem wtn {off : Nat} {cs : List Value} {elem : TypeId} {esz a z : Nat} (h : off + 1 ≤ a) : ldY off (some (Y cs elem esz [a] z)) = valO cs[off]? := by
 show (bif Nat.ble (off + 1) a then valO cs[off]? else .none) = _
 rw [nble, decide_eq_true h]; rfl
def hdY : Option ABlk → Nat
 | some (.cells b) => wlkc b.lens
 | _ => 0
theorem wun {cs : List Value} {elem : TypeId} {esz a z : Nat} : hdY (some (Y cs elem esz [a] z)) = a := rfl
def stY (h : List ABlk) (i off size : Nat) (v : Value) : Option ABlk → ARes
 | some (.cells b) => bif Nat.ble (off + size) (wlkc b.lens) && Nat.beq b.frz 0 then .eff undef (HP (h.set i (.cells { b with cells := wm b.cells off v.cells.toList }))) else .none
 | _ => .none
theorem wxd {h : List ABlk} (hh : h.length ≤ 1099511627774) {i off size : Nat} {v : Value} (hc : canY h[i]? = true) (hz : wahb h[i]? = 0) (hs : off + size ≤ hdY h[i]?)
  (hv : v.cells.size = size) (hj : isJK v = false) (ho : v.cells.toList.all oneCell = true) (hr : wqb v.cells.toList = true) : wss (HP h) size (.pointer (some ⟨i, off, some 0⟩)) v = stY h i off size v h[i]? := by
 obtain ⟨cs, elem, esz, a, z, hb⟩ := wvt hc
 rw [hb] at hz hs ⊢
 have hz : z = 0 := hz
 subst hz
 have hs : off + size ≤ a := hs
 rw [store_Y hh hb hs hv hj ho hr]
 show _ = bif Nat.ble (off + size) a && Nat.beq 0 0 then _ else _
 rw [nble, decide_eq_true hs]; rfl
theorem wmg {cs : List Value} {elem : TypeId} {esz z : Nat} {r : List Nat} : wahb (some (Y cs elem esz r z)) = z := rfl
theorem wvn {h : List ABlk} {i off size : Nat} {v : Value} {cs : List Value} {elem : TypeId} {esz a : Nat} (hs : off + size ≤ a) : stY h i off size v (some (Y cs elem esz [a] 0)) = .eff undef (HP (h.set i (Y (wm cs off v.cells.toList) elem esz [a] 0))) := by
 show (bif Nat.ble (off + size) a && Nat.beq 0 0 then _ else _) = _
 rw [nble, decide_eq_true hs]; rfl
def appF (h : List ABlk) (elem size bytes : Nat) (s : Value) (n : Nat) (new : List Value) : ARes := wmy false (HP h) elem size bytes s n new
def appRF (h : List ABlk) (elem size bytes : Nat) (s : Value) (n : Nat) : Option ABlk → ARes
 | some (.cells b) => bif Nat.ble (n * size) b.cells.length then appF h elem size bytes s n (slotsOf b.cells 0 (n * size)) else .none
 | _ => .none
theorem wng {h : List ABlk} {elem size bytes : Nat} {s : Value} {n : Nat} {cs : List Value} {t z : Nat} {pf : Bool} (hc : n * size ≤ cs.length) : appRF h elem size bytes s n (some (X cs t z pf)) = appF h elem size bytes s n (slotsOf cs 0 (n * size)) := by
 show (bif Nat.ble (n * size) cs.length then _ else _) = _
 rw [nble, decide_eq_true hc]; rfl
theorem wye {h : List ABlk} (hh : h.length ≤ 1099511627774) {elem size bytes : Nat} {s : Value} {i n c : Nat} (hx : wktb h[i]? = true) :
  appA false (HP h) elem size bytes s (.slice (some ⟨i, 0, none⟩) (n + 1) c) = appRF h elem size bytes s (n + 1) h[i]? := by
 unfold appA
 have h1 : lenA (.slice (some ⟨i, 0, none⟩) (n + 1) c) = some (n + 1) := rfl
 rw [h1]
 have h2 : wbl (HP h) size (n + 1) (.slice (some ⟨i, 0, none⟩) (n + 1) c) = match wzi (HP h) ⟨i, 0, none⟩ ((n + 1) * size) with
  | some b => some (slotsOf b.cells 0 ((n + 1) * size))
  | none => none := by
  show (bif Nat.ble (n + 1) (n + 1) && Nat.blt 0 (n + 1) then _ else none) = _
  rw [nble, nblt, decide_eq_true (Nat.le_refl _), decide_eq_true (Nat.succ_pos n)]
  rfl
 simp only [h2]
 unfold wzi
 rw [wyg h hh]
 cases hb : h[i]? with
 | none => rw [hb] at hx; cases hx
 | some b =>
  rw [hb] at hx
  cases b with
  | cells b =>
   have hx : (isNil b.lens && Nat.beq b.wver 0) = true := hx
   simp only [Bool.and_eq_true, Nat.beq_eq] at hx
   obtain ⟨h3, h4⟩ := hx
   have h5 : b.lens = [] := by cases hl : b.lens with | nil => rfl | cons a r => rw [hl] at h3; cases h3
   have h6 : rdOk b (aver ⟨i, 0, none⟩) (0 + (n + 1) * size) = Nat.ble ((n + 1) * size) b.cells.length := by
    unfold rdOk
    have e1 : b.top = 0 := by unfold CBlk.top; rw [h5]; rfl
    have e2 : b.lenAt 0 = b.cells.length := by unfold CBlk.lenAt; rw [h5]
    rw [h4, e1]
    show (Nat.ble 0 0 && (Nat.ble 0 0 && Nat.ble (0 + (n + 1) * size) (b.lenAt 0))) = _
    rw [e2, Nat.zero_add, nble, nble]
    simp
   simp only [h6]
   cases hq : Nat.ble ((n + 1) * size) b.cells.length with
   | true => simp only [cond_true, appRF, hq]; rfl
   | false => simp only [cond_false, appRF, hq]
  | map es => cases hx
  | tok a b c => cases hx
theorem wze {h : List ABlk} (hh : h.length ≤ 1099511627774) {elem size bytes n : Nat} {new : List Value} (hn : n ≤ 16777216) (hb : bytes ≤ 1048576) (hr : wqb new = true) :
  appF h elem size bytes (.slice none 0 0) n new = .eff (.slice (some ⟨h.length, 0, some 0⟩) n 0) (HP (h ++ [Y new elem size [new.length] 0])) := by
 have h1 : roomy n bytes = true := by unfold roomy; rw [nble, nble, decide_eq_true hn, decide_eq_true hb]; rfl
 show (bif roomy n bytes then wen (HP h) elem size new n else .none) = _
 rw [h1, cond_true]
 unfold wen
 rw [HP_n, wrg hh, cond_true, hr, wao]
def apY (h : List ABlk) (i elem size len n : Nat) (new : List Value) : Option ABlk → ARes
 | some (.cells b) => bif Nat.beq b.elem elem && (Nat.beq b.esz size && (Nat.beq (len * size) b.cells.length && (Nat.beq (len * size) (wlkc b.lens) && Nat.beq b.frz 0))) then
   .eff (.slice (some ⟨i, 0, some 1⟩) (len + n) 0) (HP (h.set i (.cells { b with cells := b.cells ++ new, lens := (b.cells ++ new).length :: b.lens }))) else .none
 | _ => .none
theorem wdn {h : List ABlk} {i elem size len n : Nat} {new cs : List Value} (hl : len * size = cs.length) {a : Nat} (ha : cs.length = a) : apY h i elem size len n new (some (Y cs elem size [a] 0)) = .eff (.slice (some ⟨i, 0, some 1⟩) (len + n) 0) (HP (h.set i (Y (cs ++ new) elem size [(cs ++ new).length, a] 0))) := by
 show (bif Nat.beq elem elem && (Nat.beq size size && (Nat.beq (len * size) cs.length && (Nat.beq (len * size) a && Nat.beq 0 0))) then _ else _) = _
 rw [nbeq, nbeq, nbeq, nbeq, decide_eq_true rfl, decide_eq_true rfl, decide_eq_true hl, decide_eq_true (hl.trans ha)]
 rfl
def isEff : ARes → Bool
 | .eff _ _ => true
 | _ => false
theorem wyd {v : Value} {H : AH} : isEff (.eff v H) = true := rfl
theorem wog {h : List ABlk} (hh : h.length ≤ 1099511627774) {i elem size bytes len n : Nat} {new : List Value} (hc : canY h[i]? = true) (h0 : 0 < len) (hz : 0 < size) (hn : len + n ≤ 16777216) (hb : bytes ≤ 1048576) (hr : wqb new = true) (ho : new.all oneCell = true)
  (hok : isEff (apY h i elem size len n new h[i]?) = true) :
  appF h elem size bytes (.slice (some ⟨i, 0, some 0⟩) len 0) n new = apY h i elem size len n new h[i]? := by
 obtain ⟨cs, el2, esz, a, z, hb0⟩ := wvt hc
 rw [hb0] at hok ⊢
 have hi := Y_lt hb0
 have hok2 : (Nat.beq el2 elem && (Nat.beq esz size && (Nat.beq (len * size) cs.length && (Nat.beq (len * size) a && Nat.beq z 0)))) = true := by
  cases hq : (Nat.beq el2 elem && (Nat.beq esz size && (Nat.beq (len * size) cs.length && (Nat.beq (len * size) a && Nat.beq z 0)))) with
  | true => rfl
  | false =>
   have hok : isEff (bif (Nat.beq el2 elem && (Nat.beq esz size && (Nat.beq (len * size) cs.length && (Nat.beq (len * size) a && Nat.beq z 0)))) then .eff (.slice (some ⟨i, 0, some 1⟩) (len + n) 0) (HP (h.set i (.cells { cells := cs ++ new, elem := el2, esz := esz, lens := (cs ++ new).length :: [a], wver := 0, frz := z, mark := false, pf := true }))) else ARes.none) = true := hok
   rw [hq] at hok; cases hok
 simp only [Bool.and_eq_true] at hok2
 obtain ⟨q1, q2, q3, q4, q5⟩ := hok2
 have q1 := Nat.eq_of_beq_eq_true q1
 have q2 := Nat.eq_of_beq_eq_true q2
 have q3 := Nat.eq_of_beq_eq_true q3
 have q4 := Nat.eq_of_beq_eq_true q4
 have q5 := Nat.eq_of_beq_eq_true q5
 subst q1 q2 q5
 rw [wdn q3 (q3.symm.trans q4)]
 have h1 : roomy (len + n) bytes = true := by unfold roomy; rw [nble, nble, decide_eq_true hn, decide_eq_true hb]; rfl
 show (bif roomy (len + n) bytes then wvv (HP h) el2 esz ⟨i, 0, some 0⟩ len n new else .none) = _
 rw [h1, cond_true]
 unfold wvv
 have h2 : wbm esz ⟨i, 0, some 0⟩ (HP h) (len * esz) = true := by
  unfold wbm
  rw [rd_Y hh hb0, if_pos (by omega)]
  show (Nat.beq esz esz && (true && (Nat.beq (0 % esz) 0 && Nat.blt 0 esz))) = true
  rw [nbeq, nblt, decide_eq_true rfl, decide_eq_true hz, Nat.zero_mod]; rfl
 rw [h2, nblt, decide_eq_true h0, rd_Y hh hb0, if_pos (by omega)]
 have h3 : wieb { cells := cs, elem := el2, esz := esz, lens := [a], wver := 0, frz := 0, mark := false, pf := true } el2 esz ⟨i, 0, some 0⟩ len = true := by
  unfold wieb
  show (Nat.beq el2 el2 && (Nat.beq 0 0 && (Nat.beq 0 0 && Nat.beq (len * esz) cs.length && (Nat.ble 0 cs.length && wac i)))) = true
  rw [nbeq, nbeq, nbeq, nble, wrg (show i ≤ 1099511627774 by omega), decide_eq_true rfl, decide_eq_true rfl, decide_eq_true q3, decide_eq_true (Nat.zero_le _)]; rfl
 simp only [Bool.and_self, cond_true, h3, ho, hr]
 rw [wfo _ _ _ hi]
 rfl
def slY (i n : Nat) : Option ABlk → Option (Value × Frs)
 | some (.cells b) => bif Nat.blt 0 b.esz && (Nat.ble (n * b.esz) (wlkc b.lens) && wqb (slotsOf b.cells 0 (n * b.esz))) then some (FL n (slotsOf b.cells 0 (n * b.esz)), [(i, n * b.esz)]) else none
 | _ => none
theorem wqm {i n : Nat} {cs : List Value} {elem : TypeId} {esz a z : Nat} (h1 : 0 < esz) (h2 : n * esz ≤ a) (h3 : wqb (slotsOf cs 0 (n * esz)) = true) : slY i n (some (Y cs elem esz [a] z)) = some (FL n (slotsOf cs 0 (n * esz)), [(i, n * esz)]) := by
 show (bif Nat.blt 0 esz && (Nat.ble (n * esz) a && wqb (slotsOf cs 0 (n * esz))) then _ else none) = _
 rw [nblt, nble, decide_eq_true h1, decide_eq_true h2, h3]; rfl
theorem waf {h : List ABlk} (hh : h.length ≤ 1099511627774) {i n : Nat} {sl : List Value → Option (List Value × Frs)} (hc : canY h[i]? = true) (h0 : 0 < n) (hok : (slY i n h[i]?).isSome = true) :
  wpg P (HP h) sl (.slice (some ⟨i, 0, some 0⟩) n 0) = slY i n h[i]? := by
 obtain ⟨cs, elem, esz, a, z, hb⟩ := wvt hc
 rw [hb] at hok ⊢
 have hok2 : (Nat.blt 0 esz && (Nat.ble (n * esz) a && wqb (slotsOf cs 0 (n * esz)))) = true := by
  cases hq : (Nat.blt 0 esz && (Nat.ble (n * esz) a && wqb (slotsOf cs 0 (n * esz)))) with
  | true => rfl
  | false =>
   have : (bif (Nat.blt 0 esz && (Nat.ble (n * esz) a && wqb (slotsOf cs 0 (n * esz)))) then some (FL n (slotsOf cs 0 (n * esz)), [(i, n * esz)]) else none).isSome = true := hok
   rw [hq] at this; cases this
 simp only [Bool.and_eq_true] at hok2
 obtain ⟨q1, q2, q3⟩ := hok2
 rw [nblt] at q1
 rw [nble] at q2
 have q1 := of_decide_eq_true q1
 have q2 := of_decide_eq_true q2
 rw [wqm q1 q2 q3, wikc hh hb h0 q1 q2 q3]
def c3Y (h : List ABlk) (i : Nat) (ds : List Value) (t2 e2 a2 z2 : Nat) : Option ABlk → Did
 | some (.cells b) => .did (.tuple ⟨[]⟩) none true (HP (h.set i (Y ds t2 e2 [a2] (max b.frz z2)))) (chg h (h.set i (Y ds t2 e2 [a2] (max b.frz z2))) [i] [])
 | _ => .none
theorem wzc {H : AH} {h : List ABlk} (hh1 : h.length + 1 ≤ 1099511627774) {i : Nat} {ds : List Value} {t2 : TypeId} {e2 a2 z2 : Nat} (hc : canY h[i]? = true) :
  wzo H (HP h) [] [i] [(i, true)] (some (.val (.tuple ⟨[]⟩), HP [Y ds t2 e2 [a2] z2])) = c3Y h i ds t2 e2 a2 z2 h[i]? := by
 obtain ⟨cs, elem, esz, a, z, hb⟩ := wvt hc
 rw [callS3_Y hh1 hb, hb]
 rfl
theorem wwn {h : List ABlk} {i : Nat} {ds cs : List Value} {t2 e2 a2 z2 : Nat} {elem : TypeId} {esz a z : Nat} : c3Y h i ds t2 e2 a2 z2 (some (Y cs elem esz [a] z)) = .did (.tuple ⟨[]⟩) none true (HP (h.set i (Y ds t2 e2 [a2] (max z z2)))) (chg h (h.set i (Y ds t2 e2 [a2] (max z z2))) [i] []) := rfl
theorem wvb {h : List ABlk} {v : Value} (hv : frzV v = true) (hk : h.length ≤ 1099511627774) : wzo (HP h) (HP h) [] [] [] (some (.val v, HP [])) = .did v none true (HP h) [] := wncb hv hk
theorem wwb {h h1 : List ABlk} {p : Nat × Nat} {fr : Frs} {v : Value} (hv : frzV v = true) (hk : h1.length ≤ 1099511627774) : wzo (HP h) (HP h1) (p :: fr) [] [] (some (.val v, HP [])) = .did v none true (HP (bif flat v then h else h1)) (bif flat v then [] else wbr (p :: fr)) := wocb hv hk
end
end Go.Den
