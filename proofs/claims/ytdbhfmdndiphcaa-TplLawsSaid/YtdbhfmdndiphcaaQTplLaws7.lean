/-
  PARTS OF A PROOF, joined by a program (7 of 8): a proved reckoner of the model, and what the functions come to.
-/
import Derived.Test.YtdbhfmdndiphcaaQTplLaws6
set_option linter.unusedVariables false
set_option linter.unusedSimpArgs false
namespace Go.Proofs.Ytdbhfmdndiphcaa
set_option linter.unusedVariables false
set_option linter.unusedSimpArgs false
open Go.Den
noncomputable section
theorem ev_back (s : List UInt8) (hs : s.length ≤ 1000) (bol : Bool) (n : Int) (n1 : 1 ≤ n) (n3 : n ≤ 3) (x : St) (hx : GdS s.length x) :
    lim Try.prog cfg (.call 84 [.agg ⟨[str s, .bool bol]⟩, .int .i64 n, .agg ⟨stC x⟩]) (HP []) = some (.val (FL (whnb s n x).length (stsC (whnb s n x))), HP []) := by
  refine wib hc wis (Nat.le_of_ble_eq_true rfl) (Nat.le_of_ble_eq_true rfl) ?_
  unfold wwo
  have h := hx.sp n.toNat (by omega) (by omega)
  have hlo := hx.lo
  have hhi := hx.hi
  unfold whnb
  obtain ⟨f, hf⟩ : ∃ f, x.2.at (n.toNat * 2) = f := ⟨_, rfl⟩
  obtain ⟨t, ht⟩ : ∃ t, x.2.at (n.toNat * 2 + 1) = t := ⟨_, rfl⟩
  rw [hf, ht] at h ⊢
  rcases h with ⟨rfl, rfl⟩ | ⟨h1, h2, h3⟩
  · (repeat' (first | (simp -implicitDefEqProofs (maxSteps := 2000000) (disch := first | with_reducible assumption | omega | (simp only [zS, zA, seval, zD] <;> omega) | fail) only [zS, argl, insA, Go.Den.wm, wo, wu, looks, wz, wy, idOf, riA, seval, Go.Den.wh, kK, *, zT]) | (with_reducible (first | apply z1 | apply z2 | apply z3 | apply z4) <;> intro hq <;> (try simp only [zH] at hq) <;> (try (exfalso; omega))) | (with_reducible apply z5; (case hl => (repeat (first | exact .nil | with_reducible apply z6 | with_reducible apply z7))); (case h => kernel_rfl))))
  · have h0 : ¬ f < 0 := by omega
    (repeat' (first | (simp -implicitDefEqProofs (maxSteps := 2000000) (disch := first | with_reducible assumption | omega | (simp only [zS, zA, seval, zD] <;> omega) | fail) only [zS, argl, insA, Go.Den.wm, wo, wu, looks, wz, wy, idOf, riA, seval, Go.Den.wh, kK, *, zT]) | (with_reducible (first | apply z1 | apply z2 | apply z3 | apply z4) <;> intro hq <;> (try simp only [zH] at hq) <;> (try (exfalso; omega))) | (with_reducible apply z5; (case hl => (repeat (first | exact .nil | with_reducible apply z6 | with_reducible apply z7))); (case h => kernel_rfl))))
    all_goals simp_all [wwg, wueb]
def wou (w : St → List St) (l : List St) (out : List St) : List St := l.foldl (fun out y => addF out (w y)) out
theorem wov (w : St → List St) (y : St) (l out : List St) : wou w (y :: l) out = wou w l (addF out (w y)) := rfl
abbrev frC (s : List UInt8) (bol : Bool) (r : Rx) (l : List St) : List ABlk := [X [str s, .bool bol] 123 0 true, X (rxC r) 47 0 true, X [FO 3 l.length (stsC l), .map (some 4)] 158 0 false, .tok l.length 113 9, .map (setK stC l)]
abbrev frN (s : List UInt8) (bol : Bool) (r : Rx) : List ABlk := [X [str s, .bool bol] 123 0 true, X (rxC r) 47 0 true, X [.slice none 0 0, .map (some 3)] 158 0 false, .map []]
theorem wxpb (w : St → List St) : ∀ (l out : List St), out ≠ [] → wou w l out ≠ [] := by
  intro l
  induction l with
  | nil => intro out h; exact h
  | cons y l ih => intro out h; exact ih _ (waj (.inl h))
def rowO (l : List St) : List ABlk := if l = [] then rowN else rowC l
theorem whvb (s : List UInt8) (hs : s.length ≤ 12) (bol : Bool) (r : Rx) (w : St → List St) (a : Int) (l : List St) (hll : l.length ≤ 16000000) (hl : ∀ y ∈ l, GdS s.length y ∧ a ≤ y.1) (hw : ∀ y, GdS s.length y → RwS s.length y.1 (w y) ∧ lim Try.prog cfg (.call 63 [.agg ⟨[str s, .bool bol]⟩, .agg ⟨rxC r⟩, .agg ⟨stC y⟩]) (HP []) = some (.val (FL (w y).length (stsC (w y))), HP [])) :
    ∀ (k i : Nat) (out : List St), i + k = l.length → out ≠ [] → RwS s.length a out →
    lim Try.prog cfg (.loop 87 0 (wvg 0) (SE (EJ 28 G0) [(13, .int .i64 i), (12, .int .i64 l.length), (11, FL l.length (stsC l)), (7, .pointer (some ⟨2, 0, none⟩)), (4, .pointer (some ⟨1, 0, none⟩)), (3, .pointer (some ⟨0, 0, none⟩))])) (HP (frC s bol r out)) = some (.code (.exit 0) (SE (EJ 28 G0) [(7, .pointer (some ⟨0, 0, none⟩))]), HP (rowC (wou w (l.drop i) out))) := by
  intro k
  induction k with
  | zero =>
    intro i out hi ho hr
    rw [List.drop_of_length_le (by omega)]
    refine wcb wsf ?_
    unfold wrf
    (repeat' (first | (simp -implicitDefEqProofs (maxSteps := 2000000) (disch := first | with_reducible assumption | omega | (simp only [zS, zA, seval, wab, zD] <;> omega) | fail) only [zS, argl, insA, Go.Den.wm, wo, wu, looks, wz, wy, idOf, riA, seval, Go.Den.wh, kK, wsd, wab, *, zT]) | (with_reducible (first | apply z1 | apply z2 | apply z3 | apply z4) <;> intro hq <;> (try simp only [zH] at hq) <;> (try (exfalso; omega)))))
    all_goals rfl
  | succ k ih =>
    intro i out hi ho hr
    rw [wph l (by omega), wov]
    have hy := hl (l.getD i St.zero) (by rw [List.getD_eq_getElem?_getD, List.getElem?_eq_getElem (by omega)]; exact List.getElem_mem _)
    have ⟨h1, h2⟩ := hw _ hy.1
    have h3 : RwS s.length a (addF out (w (l.getD i St.zero))) := hr.add (fun z hz => ⟨(h1.good z hz).1, by have := (h1.good z hz).2; omega⟩)
    have h4 := row_len h1 hs
    have h5 := row_len h3 hs
    have h6 := wdr out (w (l.getD i St.zero)) ho (by omega) (by omega)
    refine wcb wsf ?_
    unfold wrf
    (repeat' (first | (simp -implicitDefEqProofs (maxSteps := 2000000) (disch := first | with_reducible assumption | omega | (simp only [zS, zA, seval, wab, zD] <;> omega) | fail) only [zS, argl, insA, Go.Den.wm, wo, wu, looks, wz, wy, idOf, riA, seval, Go.Den.wh, kK, wsd, wab, wgb, *, zT]) | (with_reducible (first | apply z1 | apply z2 | apply z3 | apply z4) <;> intro hq <;> (try simp only [zH] at hq) <;> (try (exfalso; omega)))))
    exact ih (i + 1) _ (by omega) (waj (.inl ho)) h3
theorem wivb (s : List UInt8) (hs : s.length ≤ 12) (bol : Bool) (r : Rx) (w : St → List St) (a : Int) (l : List St) (hll : l.length ≤ 16000000) (hl : ∀ y ∈ l, GdS s.length y ∧ a ≤ y.1) (hw : ∀ y, GdS s.length y → RwS s.length y.1 (w y) ∧ lim Try.prog cfg (.call 63 [.agg ⟨[str s, .bool bol]⟩, .agg ⟨rxC r⟩, .agg ⟨stC y⟩]) (HP []) = some (.val (FL (w y).length (stsC (w y))), HP [])) :
    ∀ (k i : Nat), i + k = l.length →
    lim Try.prog cfg (.loop 87 0 (wvg 0) (SE (EJ 28 G0) [(13, .int .i64 i), (12, .int .i64 l.length), (11, FL l.length (stsC l)), (7, .pointer (some ⟨2, 0, none⟩)), (4, .pointer (some ⟨1, 0, none⟩)), (3, .pointer (some ⟨0, 0, none⟩))])) (HP (frN s bol r)) = some (.code (.exit 0) (SE (EJ 28 G0) [(7, .pointer (some ⟨0, 0, none⟩))]), HP (rowO (wou w (l.drop i) []))) := by
  intro k
  induction k with
  | zero =>
    intro i hi
    rw [List.drop_of_length_le (by omega)]
    refine wcb wsf ?_
    unfold wrf
    (repeat' (first | (simp -implicitDefEqProofs (maxSteps := 2000000) (disch := first | with_reducible assumption | omega | (simp only [zS, zA, seval, wab, zD] <;> omega) | fail) only [zS, argl, insA, Go.Den.wm, wo, wu, looks, wz, wy, idOf, riA, seval, Go.Den.wh, kK, wsd, wab, *, zT]) | (with_reducible (first | apply z1 | apply z2 | apply z3 | apply z4) <;> intro hq <;> (try simp only [zH] at hq) <;> (try (exfalso; omega)))))
    all_goals rfl
  | succ k ih =>
    intro i hi
    have hd := wph l (show i < l.length by omega)
    rw [hd, wov]
    have hy := hl (l.getD i St.zero) (by rw [List.getD_eq_getElem?_getD, List.getElem?_eq_getElem (by omega)]; exact List.getElem_mem _)
    have ⟨h1, h2⟩ := hw _ hy.1
    have h3 : RwS s.length a (addF [] (w (l.getD i St.zero))) := RwS.nil.add (fun z hz => ⟨(h1.good z hz).1, by have := (h1.good z hz).2; omega⟩)
    have h4 := row_len h1 hs
    have h5 := row_len h3 hs
    have h7 := ih (i + 1) (by omega)
    refine wcb wsf ?_
    unfold wrf
    by_cases hz : w (l.getD i St.zero) = []
    · rw [hz] at h2 ⊢
      clear h1 h3 h4 h5
      rw [List.length_nil, wueb] at h2
      (repeat' (first | (simp -implicitDefEqProofs (maxSteps := 2000000) (disch := first | with_reducible assumption | omega | (simp only [zS, zA, seval, wab, zD] <;> omega) | fail) only [zS, argl, insA, Go.Den.wm, wo, wu, looks, wz, wy, idOf, riA, seval, Go.Den.wh, kK, wsd, wab, wgb, wwpb, *, zT]) | (with_reducible (first | apply z1 | apply z2 | apply z3 | apply z4) <;> intro hq <;> (try simp only [zH] at hq) <;> (try (exfalso; omega)))))
      exact h7
    · have h6 := wnu (w (l.getD i St.zero)) hz (by omega) (by omega)
      have h8 := whvb s hs bol r w a l hll hl hw k (i + 1) (addF [] (w (l.getD i St.zero))) (by omega) (waj (.inr hz)) h3
      rw [rowO, if_neg (wxpb w _ _ (waj (.inr hz)))]
      clear h7
      (repeat' (first | (simp -implicitDefEqProofs (maxSteps := 2000000) (disch := first | with_reducible assumption | omega | (simp only [zS, zA, seval, wab, zD] <;> omega) | fail) only [zS, argl, insA, Go.Den.wm, wo, wu, looks, wz, wy, idOf, riA, seval, Go.Den.wh, kK, wsd, wab, wgb, *, zT]) | (with_reducible (first | apply z1 | apply z2 | apply z3 | apply z4) <;> intro hq <;> (try simp only [zH] at hq) <;> (try (exfalso; omega)))))
      exact h8
theorem wxec (s : List UInt8) (hs : s.length ≤ 12) (bol : Bool) (r : Rx) (w : St → List St) (a : Int) (l : List St) (hll : l.length ≤ 16000000) (hl : ∀ y ∈ l, GdS s.length y ∧ a ≤ y.1) (hw : ∀ y, GdS s.length y → RwS s.length y.1 (w y) ∧ lim Try.prog cfg (.call 63 [.agg ⟨[str s, .bool bol]⟩, .agg ⟨rxC r⟩, .agg ⟨stC y⟩]) (HP []) = some (.val (FL (w y).length (stsC (w y))), HP [])) :
    lim Try.prog cfg (.call 87 [.agg ⟨[str s, .bool bol]⟩, .agg ⟨rxC r⟩, FL l.length (stsC l)]) (HP []) = some (.val (FL (winb w l).length (stsC (winb w l))), HP []) := by
  refine wib hc wjs (Nat.le_of_ble_eq_true rfl) (Nat.le_of_ble_eq_true rfl) ?_
  unfold wxo
  have h := wivb s hs bol r w a l hll hl hw l.length 0 (by omega)
  rw [List.drop_zero, show ((0 : Nat) : Int) = 0 from rfl] at h
  show _ = some (Out.val (FL (wou w l []).length (stsC (wou w l []))), HP [])
  clear hw
  by_cases hz : wou w l [] = []
  · rw [rowO, if_pos hz] at h
    rw [hz]
    (repeat' (first | (simp -implicitDefEqProofs (maxSteps := 2000000) (disch := first | with_reducible assumption | omega | (simp only [zS, zA, seval, wab, zD] <;> omega) | fail) only [zS, argl, insA, Go.Den.wm, wo, wu, looks, wz, wy, idOf, riA, seval, Go.Den.wh, kK, wsd, wab, wtk, *, zT]) | (with_reducible (first | apply z1 | apply z2 | apply z3 | apply z4) <;> intro hq <;> (try simp only [zH] at hq) <;> (try (exfalso; omega)))))
  · rw [rowO, if_neg hz] at h
    (repeat' (first | (simp -implicitDefEqProofs (maxSteps := 2000000) (disch := first | with_reducible assumption | omega | (simp only [zS, zA, seval, wab, zD] <;> omega) | fail) only [zS, argl, insA, Go.Den.wm, wo, wu, looks, wz, wy, idOf, riA, seval, Go.Den.wh, kK, wsd, wab, wtk, *, zT]) | (with_reducible (first | apply z1 | apply z2 | apply z3 | apply z4) <;> intro hq <;> (try simp only [zH] at hq) <;> (try (exfalso; omega)))))
end
end Go.Proofs.Ytdbhfmdndiphcaa
namespace Go.Proofs.Ytdbhfmdndiphcaa
set_option linter.unusedVariables false
set_option linter.unusedSimpArgs false
open Go.Den
noncomputable section
abbrev Turn := Int × St
def trC (p : Turn) : List Value := .int .i64 p.1 :: stC p.2
theorem wwib {p : Turn} : (trC p).length = 10 := by rw [trC, List.length_cons, wpib]
theorem tr_atom {p : Turn} : wwe (trC p) = true := by rw [trC, wlv, wzmb]; rfl
theorem wdg (p : Turn) : FzL (trC p) := fzl tr_atom
theorem wsg {p : Turn} : wsm (trC p) = true := by rw [trC, war, wydc]; rfl
theorem tr_bq {p : Turn} : beqL (trC p) (trC p) = true := by rw [trC, wui, wyt, st_bq]; rfl
theorem tr_fits {p : Turn} : wcg [.int .i64, .int .i64, .int .i64, .int .i64, .int .i64, .int .i64, .int .i64, .int .i64, .int .i64, .int .i64] (trC p) = true := by
  rw [trC]; show (true && wcg _ (stC p.2)) = true; rw [wanb]; rfl
theorem tr_eqL {p q : Turn} : eqL (trC p) (trC q) = decide (p = q) := by
  obtain ⟨a, m⟩ := p
  obtain ⟨b, n⟩ := q
  show ((a == b) && eqL (stC m) (stC n)) = _
  rw [st_eqL]
  by_cases h1 : a = b <;> by_cases h2 : m = n <;> simp [h1, h2]
theorem wyec {n : Int} {x : St} : (Value.int .i64 n :: stC x) = trC (n, x) := rfl
theorem wypb {p : Turn} : slotsOf (trC p) 0 10 = trC p := waq wwib
theorem wwh : KeyT Try.prog 181 trC :=
  ⟨by kernel_rfl, ⟨[.int .i64, .int .i64, .int .i64, .int .i64, .int .i64, .int .i64, .int .i64, .int .i64, .int .i64, .int .i64], by kernel_rfl, fun _ => tr_fits⟩, fun _ _ => tr_eqL, fun _ => wsg⟩
theorem wqb (l : List Turn) : beqP (setK trC l) (setK trC l) = true := wjec (fun _ => tr_bq) l
section
variable (s : List UInt8) (bol : Bool) (mn mx nn : Int) (set : BitVec 256) (kids : List Rx)
abbrev repB : ABlk := X [str s, .bool bol, .int .i64 4, .int .i64 mn, .int .i64 mx, .int .i64 nn, wdV set 0, wdV set 1, wdV set 2, wdV set 3, FL kids.length (rxsC kids), .pointer (some ⟨1, 0, none⟩), .map (some 2)] 163 0 false
abbrev reN (met : List Turn) : List ABlk := [repB s bol mn mx nn set kids, X [.slice none 0 0, .map (some 3)] 158 0 false, .map (setK trC met), .map []]
abbrev reC (met : List Turn) (out : List St) : List ABlk := [repB s bol mn mx nn set kids, X [FO 3 out.length (stsC out), .map (some 4)] 158 0 false, .map (setK trC met), .tok out.length 113 9, .map (setK stC out)]
abbrev reE (met : List Turn) (out : List St) : List ABlk := [repB s bol mn mx nn set kids, X [FO 4 out.length (stsC out), .map (some 3)] 158 0 false, .map (setK trC met), .map (setK stC out), .tok out.length 113 9]
theorem ev_key_N (met : List Turn) (n : Int) (x : St) : lim Try.prog cfg (.call 108 [.pointer (some ⟨0, 0, none⟩), .int .i64 n, .agg ⟨stC x⟩]) (HP (reN s bol mn mx nn set kids met)) = some (.val (.agg ⟨trC (keyF mn mx n x)⟩), HP (reN s bol mn mx nn set kids met)) := by
  refine wib hc wak (Nat.le_of_ble_eq_true rfl) (Nat.le_of_ble_eq_true rfl) ?_
  unfold wyi keyF
  (repeat' (first | (simp -implicitDefEqProofs (maxSteps := 2000000) (disch := first | with_reducible assumption | omega | (simp only [zS, zA, seval, wab, wwib, wdg, zD] <;> omega) | fail) only [zS, argl, insA, Go.Den.wm, wo, wu, looks, wz, wy, idOf, riA, seval, Go.Den.wh, kK, wab, wyec, wypb, wwib, wdg, *, zT]) | (with_reducible (first | apply z1 | apply z2 | apply z3 | apply z4) <;> intro hq <;> (try simp only [zH] at hq) <;> (try (exfalso; omega)))))
theorem ev_key_C (met : List Turn) (out : List St) (n : Int) (x : St) : lim Try.prog cfg (.call 108 [.pointer (some ⟨0, 0, none⟩), .int .i64 n, .agg ⟨stC x⟩]) (HP (reC s bol mn mx nn set kids met out)) = some (.val (.agg ⟨trC (keyF mn mx n x)⟩), HP (reC s bol mn mx nn set kids met out)) := by
  refine wib hc wak (Nat.le_of_ble_eq_true rfl) (Nat.le_of_ble_eq_true rfl) ?_
  unfold wyi keyF
  (repeat' (first | (simp -implicitDefEqProofs (maxSteps := 2000000) (disch := first | with_reducible assumption | omega | (simp only [zS, zA, seval, wab, wwib, wdg, zD] <;> omega) | fail) only [zS, argl, insA, Go.Den.wm, wo, wu, looks, wz, wy, idOf, riA, seval, Go.Den.wh, kK, wab, wyec, wypb, wwib, wdg, *, zT]) | (with_reducible (first | apply z1 | apply z2 | apply z3 | apply z4) <;> intro hq <;> (try simp only [zH] at hq) <;> (try (exfalso; omega)))))
def muF (mn mx : Int) (len : Nat) (n : Int) (x : St) : Nat := if mx < 0 then (mn - n).toNat + ((len : Int) - x.1).toNat else (mx - n).toNat
def KidOk (s : List UInt8) (bol : Bool) (kids : List Rx) (w : St → List St) : Prop :=
  ∃ kid, slotsOf (rxsC kids) 0 9 = rxC kid ∧ 0 < kids.length ∧ ∀ y, GdS s.length y → RwS s.length y.1 (w y) ∧ lim Try.prog cfg (.call 63 [.agg ⟨[str s, .bool bol]⟩, .agg ⟨rxC kid⟩, .agg ⟨stC y⟩]) (HP []) = some (.val (FL (w y).length (stsC (w y))), HP [])
def OnC (w : St → List St) (a : Int) (k : Nat) : Prop := ∀ (n : Int) (x : St) (met : List Turn) (out : List St), 0 ≤ n → n + k ≤ 1000 → GdS s.length x → a ≤ x.1 → muF mn mx s.length n x < k → out ≠ [] → RwS s.length a out →
  lim Try.prog cfg (.call 88 [.pointer (some ⟨0, 0, none⟩), .int .i64 n, .agg ⟨stC x⟩]) (HP (reC s bol mn mx nn set kids met out)) = some (.val (.tuple ⟨[]⟩), HP (reC s bol mn mx nn set kids (onF w mn mx k n x (met, out)).1 (onF w mn mx k n x (met, out)).2))
theorem on_ne {w : St → List St} {mn mx : Int} : ∀ (k : Nat) (n : Int) (x : St) (a : List Turn × List St), a.2 ≠ [] → (onF w mn mx k n x a).2 ≠ [] := by
  intro k
  induction k with
  | zero => intro n x a h; exact h
  | succ k ih =>
    intro n x a h
    have hf : ∀ (l : List St) (b : List Turn × List St), b.2 ≠ [] → (l.foldl (fun b y => if y.1 ≠ x.1 ∨ n < mn then onF w mn mx k (n + 1) y b else b) b).2 ≠ [] := by
      intro l
      induction l with
      | nil => intro b hb; exact hb
      | cons y l ih2 =>
        intro b hb
        refine ih2 _ ?_
        show (if y.1 ≠ x.1 ∨ n < mn then onF w mn mx k (n + 1) y b else b).2 ≠ []
        split
        · exact ih _ _ _ hb
        · exact hb
    unfold onF
    split
    · exact h
    · simp only
      have hb : (if mx < 0 ∨ n < mx then (w x).foldl (fun b y => if y.1 ≠ x.1 ∨ n < mn then onF w mn mx k (n + 1) y b else b) (a.1 ++ [keyF mn mx n x], a.2) else (a.1 ++ [keyF mn mx n x], a.2)).2 ≠ [] := by
        split
        · exact hf _ _ h
        · exact h
      split
      · exact waj (.inl hb)
      · exact hb
def wnw (w : St → List St) (mn mx : Int) (k : Nat) (n : Int) (x : St) (l : List St) (b : List Turn × List St) : List Turn × List St := l.foldl (fun b y => if y.1 ≠ x.1 ∨ n < mn then onF w mn mx k (n + 1) y b else b) b
theorem wjn {w : St → List St} {mn mx : Int} {k : Nat} {n : Int} {x y : St} {l : List St} {b : List Turn × List St} : wnw w mn mx k n x (y :: l) b = wnw w mn mx k n x l (if y.1 ≠ x.1 ∨ n < mn then onF w mn mx k (n + 1) y b else b) := rfl
set_option maxHeartbeats 4000000 in
theorem on_loopC (hs : s.length ≤ 12) (hmn : 0 ≤ mn ∧ mn ≤ 20) (hmx : mx ≤ 20) (w : St → List St) (a : Int) (hk : ∀ y, GdS s.length y → RwS s.length y.1 (w y)) (k : Nat) (IH : OnC s bol mn mx nn set kids w a k) (n : Int) (hn : 0 ≤ n ∧ n + k < 1000) (hnm : mx < 0 ∨ n < mx) (x : St) (hx : GdS s.length x) (hxa : a ≤ x.1) (hmu : muF mn mx s.length n x < k + 1) (l : List St) (hll : l.length ≤ 16000000) (hl : ∀ y ∈ l, GdS s.length y ∧ x.1 ≤ y.1) :
    ∀ (j i : Nat) (met : List Turn) (out : List St), i + j = l.length → out ≠ [] → RwS s.length a out →
    lim Try.prog cfg (.loop 88 5 (wfe 0) (SE (EJ 92 G0) [(54, .int .i64 i), (53, .int .i64 l.length), (52, FL l.length (stsC l)), (5, .pointer (some ⟨5, 0, none⟩)), (1, .int .i64 n), (0, .pointer (some ⟨0, 0, none⟩))])) (HP (reC s bol mn mx nn set kids met out ++ [X (stC x) 113 0 true])) = some (.code (.exit 0) (SE (EJ 92 G0) [(5, .pointer (some ⟨5, 0, none⟩)), (1, .int .i64 n), (0, .pointer (some ⟨0, 0, none⟩))]), HP (reC s bol mn mx nn set kids (wnw w mn mx k n x (l.drop i) (met, out)).1 (wnw w mn mx k n x (l.drop i) (met, out)).2 ++ [X (stC x) 113 0 true])) := by
  intro j
  induction j with
  | zero =>
    intro i met out hi ho hr
    rw [List.drop_of_length_le (by omega)]
    refine wcb wbd ?_
    unfold wed
    clear IH hk hl
    (repeat' (first | (simp -implicitDefEqProofs (maxSteps := 2000000) (disch := first | with_reducible assumption | omega | (simp only [zS, zA, seval, wab, zD] <;> omega) | fail) only [zS, argl, insA, Go.Den.wm, wo, wu, looks, wz, wy, idOf, riA, seval, Go.Den.wh, kK, wbb, wab, *, zT]) | (with_reducible (first | apply z1 | apply z2 | apply z3 | apply z4) <;> intro hq <;> (try simp only [zH] at hq) <;> (try (exfalso; omega)))))
    all_goals rfl
  | succ j ih =>
    intro i met out hi ho hr
    rw [wph l (by omega), wjn]
    have hy := hl (l.getD i St.zero) (by rw [List.getD_eq_getElem?_getD, List.getElem?_eq_getElem (by omega)]; exact List.getElem_mem _)
    refine wcb wbd ?_
    unfold wed
    by_cases hc : (l.getD i St.zero).1 ≠ x.1 ∨ n < mn
    · have hmu2 : muF mn mx s.length (n + 1) (l.getD i St.zero) < k := by
        have h1 := hy.1.hi
        have h2 := hx.hi
        unfold muF at hmu ⊢
        split at hmu
        · rw [if_pos (by omega)]; omega
        · rw [if_neg (by omega)]; omega
      have h1 := IH (n + 1) (l.getD i St.zero) met out (by omega) (by omega) hy.1 (by omega) hmu2 ho hr
      have h2 := ih (i + 1) (onF w mn mx k (n + 1) (l.getD i St.zero) (met, out)).1 (onF w mn mx k (n + 1) (l.getD i St.zero) (met, out)).2 (by omega) (on_ne _ _ _ _ ho) (wvib (fun y hy _ => hk y hy) _ _ _ _ hy.1 (by omega) hr)
      rw [if_pos hc]
      clear IH ih hk
      by_cases hc1 : (l.getD i St.zero).1 = x.1
      · have hc2 : n < mn := by omega
        (repeat' (first | (simp -implicitDefEqProofs (maxSteps := 2000000) (disch := first | with_reducible assumption | omega | (simp only [zS, zA, seval, wab, zD] <;> omega) | fail) only [zS, argl, insA, Go.Den.wm, wo, wu, looks, wz, wy, idOf, riA, seval, Go.Den.wh, kK, wbb, wab, wgb, wqb, *, zT]) | (with_reducible (first | apply z1 | apply z2 | apply z3 | apply z4) <;> intro hq <;> (try simp only [zH] at hq) <;> (try (exfalso; omega)))))
        exact h2
      · (repeat' (first | (simp -implicitDefEqProofs (maxSteps := 2000000) (disch := first | with_reducible assumption | omega | (simp only [zS, zA, seval, wab, zD] <;> omega) | fail) only [zS, argl, insA, Go.Den.wm, wo, wu, looks, wz, wy, idOf, riA, seval, Go.Den.wh, kK, wbb, wab, wgb, wqb, *, zT]) | (with_reducible (first | apply z1 | apply z2 | apply z3 | apply z4) <;> intro hq <;> (try simp only [zH] at hq) <;> (try (exfalso; omega)))))
        exact h2
    · have h2 := ih (i + 1) met out (by omega) ho hr
      rw [if_neg hc]
      have hc1 : (l.getD i St.zero).1 = x.1 := by omega
      have hc2 : ¬ n < mn := by omega
      clear IH ih hk
      (repeat' (first | (simp -implicitDefEqProofs (maxSteps := 2000000) (disch := first | with_reducible assumption | omega | (simp only [zS, zA, seval, wab, zD] <;> omega) | fail) only [zS, argl, insA, Go.Den.wm, wo, wu, looks, wz, wy, idOf, riA, seval, Go.Den.wh, kK, wbb, wab, wgb, wqb, *, zT]) | (with_reducible (first | apply z1 | apply z2 | apply z3 | apply z4) <;> intro hq <;> (try simp only [zH] at hq) <;> (try (exfalso; omega)))))
      exact h2
end
end
end Go.Proofs.Ytdbhfmdndiphcaa
namespace Go.Proofs.Ytdbhfmdndiphcaa
set_option linter.unusedVariables false
set_option linter.unusedSimpArgs false
open Go.Den
noncomputable section
theorem wzpb {w : St → List St} {mn mx : Int} {k : Nat} {n : Int} {x : St} : ∀ (l : List St) (b : List Turn × List St), b.2 ≠ [] → (wnw w mn mx k n x l b).2 ≠ [] := by
  intro l
  induction l with
  | nil => intro b hb; exact hb
  | cons y l ih =>
    intro b hb
    rw [wjn]
    refine ih _ ?_
    split
    · exact on_ne _ _ _ _ hb
    · exact hb
theorem wxib {len : Nat} {a : Int} {w : St → List St} {mn mx : Int} (hw : ∀ x, GdS len x → RwS len x.1 (w x)) {k : Nat} {n : Int} {x : St} : ∀ (l : List St) (b : List Turn × List St), (∀ y ∈ l, GdS len y ∧ a ≤ y.1) → RwS len a b.2 → RwS len a (wnw w mn mx k n x l b).2 := by
  intro l
  induction l with
  | nil => intro b _ hb; exact hb
  | cons y l ih =>
    intro b hl hb
    rw [wjn]
    have hy := hl y (List.mem_cons_self ..)
    refine ih _ (fun z hz => hl z (List.mem_cons_of_mem _ hz)) ?_
    split
    · exact wvib (fun y hy _ => hw y hy) _ _ _ _ hy.1 hy.2 hb
    · exact hb
section
variable (s : List UInt8) (bol : Bool) (mn mx nn : Int) (set : BitVec 256) (kids : List Rx)
abbrev feN (met : List Turn) (x : St) : List ABlk := [repB s bol mn mx nn set kids, X [.slice none 0 0, .map (some 3)] 158 0 false, .map (setK trC met), .map [], X (stC x) 113 0 true]
abbrev feE (met : List Turn) (out : List St) (x : St) : List ABlk := [repB s bol mn mx nn set kids, X [FO 5 out.length (stsC out), .map (some 3)] 158 0 false, .map (setK trC met), .map (setK stC out), X (stC x) 113 0 true, .tok out.length 113 9]
def reO (p : List Turn × List St) : List ABlk := if p.2 = [] then reN s bol mn mx nn set kids p.1 else reE s bol mn mx nn set kids p.1 p.2
def feO (p : List Turn × List St) (x : St) : List ABlk := if p.2 = [] then feN s bol mn mx nn set kids p.1 x else feE s bol mn mx nn set kids p.1 p.2 x
def OnN (w : St → List St) (a : Int) (k : Nat) : Prop := ∀ (n : Int) (x : St) (met : List Turn), 0 ≤ n → n + k ≤ 1000 → GdS s.length x → a ≤ x.1 → muF mn mx s.length n x < k →
  lim Try.prog cfg (.call 88 [.pointer (some ⟨0, 0, none⟩), .int .i64 n, .agg ⟨stC x⟩]) (HP (reN s bol mn mx nn set kids met)) = some (.val (.tuple ⟨[]⟩), HP (reO s bol mn mx nn set kids (onF w mn mx k n x (met, []))))
theorem wzec {mn mx : Int} {len : Nat} {n : Int} {x y : St} {k : Nat} (hx : GdS len x) (hy : GdS len y) (hxy : x.1 ≤ y.1) (hnm : mx < 0 ∨ n < mx) (hc : y.1 ≠ x.1 ∨ n < mn) (hmu : muF mn mx len n x < k + 1) : muF mn mx len (n + 1) y < k := by
  have h1 := hy.hi
  have h2 := hx.hi
  unfold muF at hmu ⊢
  split at hmu
  · rw [if_pos (by omega)]; omega
  · rw [if_neg (by omega)]; omega
set_option maxHeartbeats 4000000 in
theorem on_loopE (hs : s.length ≤ 12) (hmn : 0 ≤ mn ∧ mn ≤ 20) (hmx : mx ≤ 20) (w : St → List St) (a : Int) (hk : ∀ y, GdS s.length y → RwS s.length y.1 (w y)) (k : Nat) (IH : OnC s bol mn mx nn set kids w a k) (n : Int) (hn : 0 ≤ n ∧ n + k < 1000) (hnm : mx < 0 ∨ n < mx) (x : St) (hx : GdS s.length x) (hxa : a ≤ x.1) (hmu : muF mn mx s.length n x < k + 1) (l : List St) (hll : l.length ≤ 16000000) (hl : ∀ y ∈ l, GdS s.length y ∧ x.1 ≤ y.1) :
    ∀ (j i : Nat) (met : List Turn) (out : List St), i + j = l.length → out ≠ [] → RwS s.length a out →
    lim Try.prog cfg (.loop 88 4 (wfe 0) (SE (EJ 92 G0) [(54, .int .i64 i), (53, .int .i64 l.length), (52, FL l.length (stsC l)), (5, .pointer (some ⟨4, 0, none⟩)), (1, .int .i64 n), (0, .pointer (some ⟨0, 0, none⟩))])) (HP (feE s bol mn mx nn set kids met out x)) = some (.code (.exit 0) (SE (EJ 92 G0) [(5, .pointer (some ⟨4, 0, none⟩)), (1, .int .i64 n), (0, .pointer (some ⟨0, 0, none⟩))]), HP (feE s bol mn mx nn set kids (wnw w mn mx k n x (l.drop i) (met, out)).1 (wnw w mn mx k n x (l.drop i) (met, out)).2 x)) := by
  intro j
  induction j with
  | zero =>
    intro i met out hi ho hr
    rw [List.drop_of_length_le (by omega)]
    refine wcb wbd ?_
    unfold wed
    clear IH hk hl
    (repeat' (first | (simp -implicitDefEqProofs (maxSteps := 2000000) (disch := first | with_reducible assumption | omega | (simp only [zS, zA, seval, wab, zD] <;> omega) | fail) only [zS, argl, insA, Go.Den.wm, wo, wu, looks, wz, wy, idOf, riA, seval, Go.Den.wh, kK, wbb, wab, *, zT]) | (with_reducible (first | apply z1 | apply z2 | apply z3 | apply z4) <;> intro hq <;> (try simp only [zH] at hq) <;> (try (exfalso; omega)))))
    all_goals rfl
  | succ j ih =>
    intro i met out hi ho hr
    rw [wph l (by omega), wjn]
    have hy := hl (l.getD i St.zero) (by rw [List.getD_eq_getElem?_getD, List.getElem?_eq_getElem (by omega)]; exact List.getElem_mem _)
    refine wcb wbd ?_
    unfold wed
    by_cases hc : (l.getD i St.zero).1 ≠ x.1 ∨ n < mn
    · have h1 := IH (n + 1) (l.getD i St.zero) met out (by omega) (by omega) hy.1 (by omega) (wzec hx hy.1 hy.2 hnm hc hmu) ho hr
      have h2 := ih (i + 1) (onF w mn mx k (n + 1) (l.getD i St.zero) (met, out)).1 (onF w mn mx k (n + 1) (l.getD i St.zero) (met, out)).2 (by omega) (on_ne _ _ _ _ ho) (wvib (fun y hy _ => hk y hy) _ _ _ _ hy.1 (by omega) hr)
      rw [if_pos hc]
      clear IH ih hk
      by_cases hc1 : (l.getD i St.zero).1 = x.1
      · have hc2 : n < mn := by omega
        (repeat' (first | (simp -implicitDefEqProofs (maxSteps := 2000000) (disch := first | with_reducible assumption | omega | (simp only [zS, zA, seval, wab, zD] <;> omega) | fail) only [zS, argl, insA, Go.Den.wm, wo, wu, looks, wz, wy, idOf, riA, seval, Go.Den.wh, kK, wbb, wab, wgb, wqb, *, zT]) | (with_reducible (first | apply z1 | apply z2 | apply z3 | apply z4) <;> intro hq <;> (try simp only [zH] at hq) <;> (try (exfalso; omega)))))
        exact h2
      · (repeat' (first | (simp -implicitDefEqProofs (maxSteps := 2000000) (disch := first | with_reducible assumption | omega | (simp only [zS, zA, seval, wab, zD] <;> omega) | fail) only [zS, argl, insA, Go.Den.wm, wo, wu, looks, wz, wy, idOf, riA, seval, Go.Den.wh, kK, wbb, wab, wgb, wqb, *, zT]) | (with_reducible (first | apply z1 | apply z2 | apply z3 | apply z4) <;> intro hq <;> (try simp only [zH] at hq) <;> (try (exfalso; omega)))))
        exact h2
    · have h2 := ih (i + 1) met out (by omega) ho hr
      rw [if_neg hc]
      have hc1 : (l.getD i St.zero).1 = x.1 := by omega
      have hc2 : ¬ n < mn := by omega
      clear IH ih hk
      (repeat' (first | (simp -implicitDefEqProofs (maxSteps := 2000000) (disch := first | with_reducible assumption | omega | (simp only [zS, zA, seval, wab, zD] <;> omega) | fail) only [zS, argl, insA, Go.Den.wm, wo, wu, looks, wz, wy, idOf, riA, seval, Go.Den.wh, kK, wbb, wab, wgb, wqb, *, zT]) | (with_reducible (first | apply z1 | apply z2 | apply z3 | apply z4) <;> intro hq <;> (try simp only [zH] at hq) <;> (try (exfalso; omega)))))
      exact h2
set_option maxHeartbeats 4000000 in
theorem on_loopN (hs : s.length ≤ 12) (hmn : 0 ≤ mn ∧ mn ≤ 20) (hmx : mx ≤ 20) (w : St → List St) (a : Int) (hk : ∀ y, GdS s.length y → RwS s.length y.1 (w y)) (k : Nat) (IHC : OnC s bol mn mx nn set kids w a k) (IH : OnN s bol mn mx nn set kids w a k) (n : Int) (hn : 0 ≤ n ∧ n + k < 1000) (hnm : mx < 0 ∨ n < mx) (x : St) (hx : GdS s.length x) (hxa : a ≤ x.1) (hmu : muF mn mx s.length n x < k + 1) (l : List St) (hll : l.length ≤ 16000000) (hl : ∀ y ∈ l, GdS s.length y ∧ x.1 ≤ y.1) :
    ∀ (j i : Nat) (met : List Turn), i + j = l.length →
    lim Try.prog cfg (.loop 88 4 (wfe 0) (SE (EJ 92 G0) [(54, .int .i64 i), (53, .int .i64 l.length), (52, FL l.length (stsC l)), (5, .pointer (some ⟨4, 0, none⟩)), (1, .int .i64 n), (0, .pointer (some ⟨0, 0, none⟩))])) (HP (feN s bol mn mx nn set kids met x)) = some (.code (.exit 0) (SE (EJ 92 G0) [(5, .pointer (some ⟨4, 0, none⟩)), (1, .int .i64 n), (0, .pointer (some ⟨0, 0, none⟩))]), HP (feO s bol mn mx nn set kids (wnw w mn mx k n x (l.drop i) (met, [])) x)) := by
  intro j
  induction j with
  | zero =>
    intro i met hi
    rw [List.drop_of_length_le (by omega)]
    refine wcb wbd ?_
    unfold wed
    clear IH IHC hk hl
    (repeat' (first | (simp -implicitDefEqProofs (maxSteps := 2000000) (disch := first | with_reducible assumption | omega | (simp only [zS, zA, seval, wab, zD] <;> omega) | fail) only [zS, argl, insA, Go.Den.wm, wo, wu, looks, wz, wy, idOf, riA, seval, Go.Den.wh, kK, wbb, wab, *, zT]) | (with_reducible (first | apply z1 | apply z2 | apply z3 | apply z4) <;> intro hq <;> (try simp only [zH] at hq) <;> (try (exfalso; omega)))))
    all_goals rfl
  | succ j ih =>
    intro i met hi
    rw [wph l (by omega), wjn]
    have hy := hl (l.getD i St.zero) (by rw [List.getD_eq_getElem?_getD, List.getElem?_eq_getElem (by omega)]; exact List.getElem_mem _)
    refine wcb wbd ?_
    unfold wed
    by_cases hc : (l.getD i St.zero).1 ≠ x.1 ∨ n < mn
    · have h1 := IH (n + 1) (l.getD i St.zero) met (by omega) (by omega) hy.1 (by omega) (wzec hx hy.1 hy.2 hnm hc hmu)
      rw [if_pos hc]
      have hr := wvib (a0 := a) (mn := mn) (mx := mx) (fun y hy _ => hk y hy) k (n + 1) (l.getD i St.zero) (met, []) hy.1 (by omega) .nil
      rcases hq : onF w mn mx k (n + 1) (l.getD i St.zero) (met, []) with ⟨met2, out2⟩
      rw [hq] at h1 hr
      unfold reO at h1
      by_cases ho : out2 = []
      · subst ho
        rw [if_pos rfl] at h1
        have h2 := ih (i + 1) met2 (by omega)
        clear IH IHC ih hk
        by_cases hc1 : (l.getD i St.zero).1 = x.1
        · have hc2 : n < mn := by omega
          (repeat' (first | (simp -implicitDefEqProofs (maxSteps := 2000000) (disch := first | with_reducible assumption | omega | (simp only [zS, zA, seval, wab, zD] <;> omega) | fail) only [zS, argl, insA, Go.Den.wm, wo, wu, looks, wz, wy, idOf, riA, seval, Go.Den.wh, kK, wbb, wab, wgb, wqb, *, zT]) | (with_reducible (first | apply z1 | apply z2 | apply z3 | apply z4) <;> intro hq <;> (try simp only [zH] at hq) <;> (try (exfalso; omega)))))
          exact h2
        · (repeat' (first | (simp -implicitDefEqProofs (maxSteps := 2000000) (disch := first | with_reducible assumption | omega | (simp only [zS, zA, seval, wab, zD] <;> omega) | fail) only [zS, argl, insA, Go.Den.wm, wo, wu, looks, wz, wy, idOf, riA, seval, Go.Den.wh, kK, wbb, wab, wgb, wqb, *, zT]) | (with_reducible (first | apply z1 | apply z2 | apply z3 | apply z4) <;> intro hq <;> (try simp only [zH] at hq) <;> (try (exfalso; omega)))))
          exact h2
      · rw [if_neg ho] at h1
        have h2 := on_loopE s bol mn mx nn set kids hs hmn hmx w a hk k IHC n hn hnm x hx hxa hmu l hll hl j (i + 1) met2 out2 (by omega) ho hr
        rw [feO, if_neg (wzpb _ _ ho)]
        clear IH IHC ih hk
        by_cases hc1 : (l.getD i St.zero).1 = x.1
        · have hc2 : n < mn := by omega
          (repeat' (first | (simp -implicitDefEqProofs (maxSteps := 2000000) (disch := first | with_reducible assumption | omega | (simp only [zS, zA, seval, wab, zD] <;> omega) | fail) only [zS, argl, insA, Go.Den.wm, wo, wu, looks, wz, wy, idOf, riA, seval, Go.Den.wh, kK, wbb, wab, wgb, wqb, *, zT]) | (with_reducible (first | apply z1 | apply z2 | apply z3 | apply z4) <;> intro hq <;> (try simp only [zH] at hq) <;> (try (exfalso; omega)))))
          exact h2
        · (repeat' (first | (simp -implicitDefEqProofs (maxSteps := 2000000) (disch := first | with_reducible assumption | omega | (simp only [zS, zA, seval, wab, zD] <;> omega) | fail) only [zS, argl, insA, Go.Den.wm, wo, wu, looks, wz, wy, idOf, riA, seval, Go.Den.wh, kK, wbb, wab, wgb, wqb, *, zT]) | (with_reducible (first | apply z1 | apply z2 | apply z3 | apply z4) <;> intro hq <;> (try simp only [zH] at hq) <;> (try (exfalso; omega)))))
          exact h2
    · have h2 := ih (i + 1) met (by omega)
      rw [if_neg hc]
      have hc1 : (l.getD i St.zero).1 = x.1 := by omega
      have hc2 : ¬ n < mn := by omega
      clear IH IHC ih hk
      (repeat' (first | (simp -implicitDefEqProofs (maxSteps := 2000000) (disch := first | with_reducible assumption | omega | (simp only [zS, zA, seval, wab, zD] <;> omega) | fail) only [zS, argl, insA, Go.Den.wm, wo, wu, looks, wz, wy, idOf, riA, seval, Go.Den.wh, kK, wbb, wab, wgb, wqb, *, zT]) | (with_reducible (first | apply z1 | apply z2 | apply z3 | apply z4) <;> intro hq <;> (try simp only [zH] at hq) <;> (try (exfalso; omega)))))
      exact h2
end
end
end Go.Proofs.Ytdbhfmdndiphcaa
namespace Go.Proofs.Ytdbhfmdndiphcaa
set_option linter.unusedVariables false
set_option linter.unusedSimpArgs false
open Go.Den
noncomputable section
section
variable (s : List UInt8) (bol : Bool) (mn mx nn : Int) (set : BitVec 256) (kids : List Rx)
theorem wafc {w : St → List St} {mn mx : Int} {k : Nat} {n : Int} {x : St} {a : List Turn × List St} (h : keyF mn mx n x ∈ a.1) : onF w mn mx (k + 1) n x a = a := by
  rw [onF, if_pos h]
theorem wafb {w : St → List St} {mn mx : Int} {k : Nat} {n : Int} {x : St} {met : List Turn} {out : List St} (h : keyF mn mx n x ∉ met) (b : List Turn × List St) (hb : b = if mx < 0 ∨ n < mx then wnw w mn mx k n x (w x) (met ++ [keyF mn mx n x], out) else (met ++ [keyF mn mx n x], out)) :
    onF w mn mx (k + 1) n x (met, out) = if n ≥ mn then (b.1, addF b.2 [x]) else b := by
  rw [onF, if_neg h, hb]
  rfl
set_option maxHeartbeats 4000000 in
theorem ev_on_C (hs : s.length ≤ 12) (hmn : 0 ≤ mn ∧ mn ≤ 20) (hmx : mx ≤ 20) (w : St → List St) (a : Int) (hk : KidOk s bol kids w) (k : Nat) (IH : OnC s bol mn mx nn set kids w a k) : OnC s bol mn mx nn set kids w a (k + 1) := by
  intro n x met out hn hn2 hx hxa hmu ho hr
  obtain ⟨kid, k1, k2, k3⟩ := hk
  have hw := fun y hy => (k3 y hy).1
  have ⟨r1, r2⟩ := k3 x hx
  have r3 := row_len r1 hs
  have key := ev_key_C s bol mn mx nn set kids
  refine wib hc wsk (Nat.le_of_ble_eq_true rfl) (Nat.le_of_ble_eq_true rfl) ?_
  unfold wnj
  by_cases hm : keyF mn mx n x ∈ met
  · rw [wafc hm]
    clear IH k3 hw r1 r2
    (repeat' (first | (simp -implicitDefEqProofs (maxSteps := 2000000) (disch := first | with_reducible assumption | omega | (simp only [zS, zA, seval, wab, wdg, wgb, wqb, zD] <;> omega) | fail) only [zS, argl, insA, Go.Den.wm, wo, wu, looks, wz, wy, idOf, riA, seval, Go.Den.wh, kK, wab, wgb, wqb, wpd wwh, wsg, wdg, *, zT]) | (with_reducible (first | apply z1 | apply z2 | apply z3 | apply z4) <;> intro hq <;> (try simp only [zH] at hq) <;> (try (exfalso; omega))) | (with_reducible apply z5; (case hl => (repeat (first | exact .nil | with_reducible apply z6 | with_reducible apply z7))); (case h => kernel_rfl))))
  · by_cases hnm : mx < 0 ∨ n < mx
    · have hb := wafb (w := w) (k := k) (out := out) hm _ rfl
      rw [if_pos hnm] at hb
      have hl := on_loopC s bol mn mx nn set kids hs hmn hmx w a hw k IH n ⟨hn, by omega⟩ hnm x hx hxa hmu (w x) (by omega) r1.good (w x).length 0 (met ++ [keyF mn mx n x]) out (by omega) ho hr
      rw [List.drop_zero, show ((0 : Nat) : Int) = 0 from rfl] at hl
      simp only [List.cons_append, List.nil_append] at hl
      have hbr := wxib (a := a) (mn := mn) (mx := mx) hw (k := k) (n := n) (x := x) (w x) (met ++ [keyF mn mx n x], out) (fun y hy => ⟨(r1.good y hy).1, by have := (r1.good y hy).2; omega⟩) hr
      have hbn := wzpb (w := w) (mn := mn) (mx := mx) (k := k) (n := n) (x := x) (w x) (met ++ [keyF mn mx n x], out) ho
      generalize wnw w mn mx k n x (w x) (met ++ [keyF mn mx n x], out) = b at hb hl hbr hbn
      obtain ⟨bm, bo⟩ := b
      simp only at hb hl hbr hbn
      rw [hb]
      have hadd := wdr bo [x] hbn (by simp) (by have := row_len (hbr.add (xs := [x]) (fun y hy => by rw [List.mem_singleton] at hy; subst hy; exact ⟨hx, hxa⟩)) hs; omega)
      rw [wwg, show [x].length = 1 from rfl] at hadd
      clear IH k3 hw r1 hb hbr
      by_cases hge : n ≥ mn
      · rw [if_pos hge]
        by_cases hmx0 : mx < 0
        · (repeat' (first | (simp -implicitDefEqProofs (maxSteps := 2000000) (disch := first | with_reducible assumption | omega | (simp only [zS, zA, seval, wab, wdg, wgb, wqb, zD] <;> omega) | fail) only [zS, argl, insA, Go.Den.wm, wo, wu, looks, wz, wy, idOf, riA, seval, Go.Den.wh, kK, wbb, wab, wgb, wqb, wpd wwh, wag wwh, wsg, wdg, *, zT]) | (with_reducible (first | apply z1 | apply z2 | apply z3 | apply z4) <;> intro hq <;> (try simp only [zH] at hq) <;> (try (exfalso; omega))) | (with_reducible apply z5; (case hl => (repeat (first | exact .nil | with_reducible apply z6 | with_reducible apply z7))); (case h => kernel_rfl))))
        · have hnm2 : n < mx := by omega
          (repeat' (first | (simp -implicitDefEqProofs (maxSteps := 2000000) (disch := first | with_reducible assumption | omega | (simp only [zS, zA, seval, wab, wdg, wgb, wqb, zD] <;> omega) | fail) only [zS, argl, insA, Go.Den.wm, wo, wu, looks, wz, wy, idOf, riA, seval, Go.Den.wh, kK, wbb, wab, wgb, wqb, wpd wwh, wag wwh, wsg, wdg, *, zT]) | (with_reducible (first | apply z1 | apply z2 | apply z3 | apply z4) <;> intro hq <;> (try simp only [zH] at hq) <;> (try (exfalso; omega))) | (with_reducible apply z5; (case hl => (repeat (first | exact .nil | with_reducible apply z6 | with_reducible apply z7))); (case h => kernel_rfl))))
      · rw [if_neg hge]
        by_cases hmx0 : mx < 0
        · (repeat' (first | (simp -implicitDefEqProofs (maxSteps := 2000000) (disch := first | with_reducible assumption | omega | (simp only [zS, zA, seval, wab, wdg, wgb, wqb, zD] <;> omega) | fail) only [zS, argl, insA, Go.Den.wm, wo, wu, looks, wz, wy, idOf, riA, seval, Go.Den.wh, kK, wbb, wab, wgb, wqb, wpd wwh, wag wwh, wsg, wdg, *, zT]) | (with_reducible (first | apply z1 | apply z2 | apply z3 | apply z4) <;> intro hq <;> (try simp only [zH] at hq) <;> (try (exfalso; omega))) | (with_reducible apply z5; (case hl => (repeat (first | exact .nil | with_reducible apply z6 | with_reducible apply z7))); (case h => kernel_rfl))))
        · have hnm2 : n < mx := by omega
          (repeat' (first | (simp -implicitDefEqProofs (maxSteps := 2000000) (disch := first | with_reducible assumption | omega | (simp only [zS, zA, seval, wab, wdg, wgb, wqb, zD] <;> omega) | fail) only [zS, argl, insA, Go.Den.wm, wo, wu, looks, wz, wy, idOf, riA, seval, Go.Den.wh, kK, wbb, wab, wgb, wqb, wpd wwh, wag wwh, wsg, wdg, *, zT]) | (with_reducible (first | apply z1 | apply z2 | apply z3 | apply z4) <;> intro hq <;> (try simp only [zH] at hq) <;> (try (exfalso; omega))) | (with_reducible apply z5; (case hl => (repeat (first | exact .nil | with_reducible apply z6 | with_reducible apply z7))); (case h => kernel_rfl))))
    · have hb := wafb (w := w) (k := k) (out := out) hm _ rfl
      rw [if_neg hnm] at hb
      simp only at hb
      rw [hb]
      have hmx0 : ¬ mx < 0 := fun h => hnm (.inl h)
      have hnm2 : ¬ n < mx := fun h => hnm (.inr h)
      have hadd := wdr out [x] ho (by simp) (by have := row_len (hr.add (xs := [x]) (fun y hy => by rw [List.mem_singleton] at hy; subst hy; exact ⟨hx, hxa⟩)) hs; omega)
      rw [wwg, show [x].length = 1 from rfl] at hadd
      clear IH k3 hw r1 r2 hb hnm
      by_cases hge : n ≥ mn
      · rw [if_pos hge]
        (repeat' (first | (simp -implicitDefEqProofs (maxSteps := 2000000) (disch := first | with_reducible assumption | omega | (simp only [zS, zA, seval, wab, wdg, wgb, wqb, zD] <;> omega) | fail) only [zS, argl, insA, Go.Den.wm, wo, wu, looks, wz, wy, idOf, riA, seval, Go.Den.wh, kK, wbb, wab, wgb, wqb, wpd wwh, wag wwh, wsg, wdg, *, zT]) | (with_reducible (first | apply z1 | apply z2 | apply z3 | apply z4) <;> intro hq <;> (try simp only [zH] at hq) <;> (try (exfalso; omega))) | (with_reducible apply z5; (case hl => (repeat (first | exact .nil | with_reducible apply z6 | with_reducible apply z7))); (case h => kernel_rfl))))
      · rw [if_neg hge]
        (repeat' (first | (simp -implicitDefEqProofs (maxSteps := 2000000) (disch := first | with_reducible assumption | omega | (simp only [zS, zA, seval, wab, wdg, wgb, wqb, zD] <;> omega) | fail) only [zS, argl, insA, Go.Den.wm, wo, wu, looks, wz, wy, idOf, riA, seval, Go.Den.wh, kK, wbb, wab, wgb, wqb, wpd wwh, wag wwh, wsg, wdg, *, zT]) | (with_reducible (first | apply z1 | apply z2 | apply z3 | apply z4) <;> intro hq <;> (try simp only [zH] at hq) <;> (try (exfalso; omega))) | (with_reducible apply z5; (case hl => (repeat (first | exact .nil | with_reducible apply z6 | with_reducible apply z7))); (case h => kernel_rfl))))
end
end
end Go.Proofs.Ytdbhfmdndiphcaa
namespace Go.Proofs.Ytdbhfmdndiphcaa
set_option linter.unusedVariables false
set_option linter.unusedSimpArgs false
open Go.Den
noncomputable section
section
variable (s : List UInt8) (bol : Bool) (mn mx nn : Int) (set : BitVec 256) (kids : List Rx)
set_option maxHeartbeats 4000000 in
theorem ev_on_N (hs : s.length ≤ 12) (hmn : 0 ≤ mn ∧ mn ≤ 20) (hmx : mx ≤ 20) (w : St → List St) (a : Int) (hk : KidOk s bol kids w) (k : Nat) (IHC : OnC s bol mn mx nn set kids w a k) (IH : OnN s bol mn mx nn set kids w a k) : OnN s bol mn mx nn set kids w a (k + 1) := by
  intro n x met hn hn2 hx hxa hmu
  obtain ⟨kid, k1, k2, k3⟩ := hk
  have hw := fun y hy => (k3 y hy).1
  have ⟨r1, r2⟩ := k3 x hx
  have r3 := row_len r1 hs
  have key := ev_key_N s bol mn mx nn set kids
  refine wib hc wsk (Nat.le_of_ble_eq_true rfl) (Nat.le_of_ble_eq_true rfl) ?_
  unfold wnj
  by_cases hm : keyF mn mx n x ∈ met
  · rw [wafc hm, reO, if_pos rfl]
    clear IH IHC k3 hw r1 r2
    (repeat' (first | (simp -implicitDefEqProofs (maxSteps := 2000000) (disch := first | with_reducible assumption | omega | (simp only [zS, zA, seval, wab, wdg, wgb, wqb, zD] <;> omega) | fail) only [zS, argl, insA, Go.Den.wm, wo, wu, looks, wz, wy, idOf, riA, seval, Go.Den.wh, kK, wab, wgb, wqb, wpd wwh, wsg, wdg, *, zT]) | (with_reducible (first | apply z1 | apply z2 | apply z3 | apply z4) <;> intro hq <;> (try simp only [zH] at hq) <;> (try (exfalso; omega))) | (with_reducible apply z5; (case hl => (repeat (first | exact .nil | with_reducible apply z6 | with_reducible apply z7))); (case h => kernel_rfl))))
  · by_cases hnm : mx < 0 ∨ n < mx
    · have hb := wafb (w := w) (k := k) (out := []) hm _ rfl
      rw [if_pos hnm] at hb
      have hl := on_loopN s bol mn mx nn set kids hs hmn hmx w a hw k IHC IH n ⟨hn, by omega⟩ hnm x hx hxa hmu (w x) (by omega) r1.good (w x).length 0 (met ++ [keyF mn mx n x]) (by omega)
      rw [List.drop_zero, show ((0 : Nat) : Int) = 0 from rfl] at hl
      have hbr := wxib (a := a) (mn := mn) (mx := mx) hw (k := k) (n := n) (x := x) (w x) (met ++ [keyF mn mx n x], []) (fun y hy => ⟨(r1.good y hy).1, by have := (r1.good y hy).2; omega⟩) .nil
      generalize wnw w mn mx k n x (w x) (met ++ [keyF mn mx n x], []) = b at hb hl hbr
      obtain ⟨bm, bo⟩ := b
      simp only at hb hbr
      rw [hb]
      have hlen : (addF bo [x]).length ≤ 16000000 := by have := row_len (hbr.add (xs := [x]) (fun y hy => by rw [List.mem_singleton] at hy; subst hy; exact ⟨hx, hxa⟩)) hs; omega
      clear IH IHC k3 hw r1 hb hbr
      unfold feO at hl
      by_cases hbo : bo = []
      · subst hbo
        rw [if_pos rfl] at hl
        have hadd := wnu [x] (by simp) (by simp) hlen
        rw [wwg, show [x].length = 1 from rfl] at hadd
        by_cases hge : n ≥ mn
        · rw [if_pos hge, reO, if_neg (waj (.inr (by simp)))]
          by_cases hmx0 : mx < 0
          · (repeat' (first | (simp -implicitDefEqProofs (maxSteps := 2000000) (disch := first | with_reducible assumption | omega | (simp only [zS, zA, seval, wab, wdg, wgb, wqb, zD] <;> omega) | fail) only [zS, argl, insA, Go.Den.wm, wo, wu, looks, wz, wy, idOf, riA, seval, Go.Den.wh, kK, wbb, wab, wgb, wqb, wpd wwh, wag wwh, wsg, wdg, *, zT]) | (with_reducible (first | apply z1 | apply z2 | apply z3 | apply z4) <;> intro hq <;> (try simp only [zH] at hq) <;> (try (exfalso; omega))) | (with_reducible apply z5; (case hl => (repeat (first | exact .nil | with_reducible apply z6 | with_reducible apply z7))); (case h => kernel_rfl))))
          · have hnm2 : n < mx := by omega
            (repeat' (first | (simp -implicitDefEqProofs (maxSteps := 2000000) (disch := first | with_reducible assumption | omega | (simp only [zS, zA, seval, wab, wdg, wgb, wqb, zD] <;> omega) | fail) only [zS, argl, insA, Go.Den.wm, wo, wu, looks, wz, wy, idOf, riA, seval, Go.Den.wh, kK, wbb, wab, wgb, wqb, wpd wwh, wag wwh, wsg, wdg, *, zT]) | (with_reducible (first | apply z1 | apply z2 | apply z3 | apply z4) <;> intro hq <;> (try simp only [zH] at hq) <;> (try (exfalso; omega))) | (with_reducible apply z5; (case hl => (repeat (first | exact .nil | with_reducible apply z6 | with_reducible apply z7))); (case h => kernel_rfl))))
        · rw [if_neg hge, reO, if_pos rfl]
          by_cases hmx0 : mx < 0
          · (repeat' (first | (simp -implicitDefEqProofs (maxSteps := 2000000) (disch := first | with_reducible assumption | omega | (simp only [zS, zA, seval, wab, wdg, wgb, wqb, zD] <;> omega) | fail) only [zS, argl, insA, Go.Den.wm, wo, wu, looks, wz, wy, idOf, riA, seval, Go.Den.wh, kK, wbb, wab, wgb, wqb, wpd wwh, wag wwh, wsg, wdg, *, zT]) | (with_reducible (first | apply z1 | apply z2 | apply z3 | apply z4) <;> intro hq <;> (try simp only [zH] at hq) <;> (try (exfalso; omega))) | (with_reducible apply z5; (case hl => (repeat (first | exact .nil | with_reducible apply z6 | with_reducible apply z7))); (case h => kernel_rfl))))
          · have hnm2 : n < mx := by omega
            (repeat' (first | (simp -implicitDefEqProofs (maxSteps := 2000000) (disch := first | with_reducible assumption | omega | (simp only [zS, zA, seval, wab, wdg, wgb, wqb, zD] <;> omega) | fail) only [zS, argl, insA, Go.Den.wm, wo, wu, looks, wz, wy, idOf, riA, seval, Go.Den.wh, kK, wbb, wab, wgb, wqb, wpd wwh, wag wwh, wsg, wdg, *, zT]) | (with_reducible (first | apply z1 | apply z2 | apply z3 | apply z4) <;> intro hq <;> (try simp only [zH] at hq) <;> (try (exfalso; omega))) | (with_reducible apply z5; (case hl => (repeat (first | exact .nil | with_reducible apply z6 | with_reducible apply z7))); (case h => kernel_rfl))))
      · rw [if_neg hbo] at hl
        have hadd := wdr bo [x] hbo (by simp) hlen
        rw [wwg, show [x].length = 1 from rfl] at hadd
        by_cases hge : n ≥ mn
        · rw [if_pos hge, reO, if_neg (waj (.inr (by simp)))]
          by_cases hmx0 : mx < 0
          · (repeat' (first | (simp -implicitDefEqProofs (maxSteps := 2000000) (disch := first | with_reducible assumption | omega | (simp only [zS, zA, seval, wab, wdg, wgb, wqb, zD] <;> omega) | fail) only [zS, argl, insA, Go.Den.wm, wo, wu, looks, wz, wy, idOf, riA, seval, Go.Den.wh, kK, wbb, wab, wgb, wqb, wpd wwh, wag wwh, wsg, wdg, *, zT]) | (with_reducible (first | apply z1 | apply z2 | apply z3 | apply z4) <;> intro hq <;> (try simp only [zH] at hq) <;> (try (exfalso; omega))) | (with_reducible apply z5; (case hl => (repeat (first | exact .nil | with_reducible apply z6 | with_reducible apply z7))); (case h => kernel_rfl))))
          · have hnm2 : n < mx := by omega
            (repeat' (first | (simp -implicitDefEqProofs (maxSteps := 2000000) (disch := first | with_reducible assumption | omega | (simp only [zS, zA, seval, wab, wdg, wgb, wqb, zD] <;> omega) | fail) only [zS, argl, insA, Go.Den.wm, wo, wu, looks, wz, wy, idOf, riA, seval, Go.Den.wh, kK, wbb, wab, wgb, wqb, wpd wwh, wag wwh, wsg, wdg, *, zT]) | (with_reducible (first | apply z1 | apply z2 | apply z3 | apply z4) <;> intro hq <;> (try simp only [zH] at hq) <;> (try (exfalso; omega))) | (with_reducible apply z5; (case hl => (repeat (first | exact .nil | with_reducible apply z6 | with_reducible apply z7))); (case h => kernel_rfl))))
        · rw [if_neg hge, reO, if_neg hbo]
          by_cases hmx0 : mx < 0
          · (repeat' (first | (simp -implicitDefEqProofs (maxSteps := 2000000) (disch := first | with_reducible assumption | omega | (simp only [zS, zA, seval, wab, wdg, wgb, wqb, zD] <;> omega) | fail) only [zS, argl, insA, Go.Den.wm, wo, wu, looks, wz, wy, idOf, riA, seval, Go.Den.wh, kK, wbb, wab, wgb, wqb, wpd wwh, wag wwh, wsg, wdg, *, zT]) | (with_reducible (first | apply z1 | apply z2 | apply z3 | apply z4) <;> intro hq <;> (try simp only [zH] at hq) <;> (try (exfalso; omega))) | (with_reducible apply z5; (case hl => (repeat (first | exact .nil | with_reducible apply z6 | with_reducible apply z7))); (case h => kernel_rfl))))
          · have hnm2 : n < mx := by omega
            (repeat' (first | (simp -implicitDefEqProofs (maxSteps := 2000000) (disch := first | with_reducible assumption | omega | (simp only [zS, zA, seval, wab, wdg, wgb, wqb, zD] <;> omega) | fail) only [zS, argl, insA, Go.Den.wm, wo, wu, looks, wz, wy, idOf, riA, seval, Go.Den.wh, kK, wbb, wab, wgb, wqb, wpd wwh, wag wwh, wsg, wdg, *, zT]) | (with_reducible (first | apply z1 | apply z2 | apply z3 | apply z4) <;> intro hq <;> (try simp only [zH] at hq) <;> (try (exfalso; omega))) | (with_reducible apply z5; (case hl => (repeat (first | exact .nil | with_reducible apply z6 | with_reducible apply z7))); (case h => kernel_rfl))))
    · have hb := wafb (w := w) (k := k) (out := []) hm _ rfl
      rw [if_neg hnm] at hb
      simp only at hb
      rw [hb]
      have hmx0 : ¬ mx < 0 := fun h => hnm (.inl h)
      have hnm2 : ¬ n < mx := fun h => hnm (.inr h)
      have hadd := wnu [x] (by simp) (by simp) (by have := row_len ((RwS.nil (len := s.length) (a := a)).add (xs := [x]) (fun y hy => by rw [List.mem_singleton] at hy; subst hy; exact ⟨hx, hxa⟩)) hs; omega)
      rw [wwg, show [x].length = 1 from rfl] at hadd
      clear IH IHC k3 hw r1 r2 hb hnm
      by_cases hge : n ≥ mn
      · rw [if_pos hge, reO, if_neg (waj (.inr (by simp)))]
        (repeat' (first | (simp -implicitDefEqProofs (maxSteps := 2000000) (disch := first | with_reducible assumption | omega | (simp only [zS, zA, seval, wab, wdg, wgb, wqb, zD] <;> omega) | fail) only [zS, argl, insA, Go.Den.wm, wo, wu, looks, wz, wy, idOf, riA, seval, Go.Den.wh, kK, wbb, wab, wgb, wqb, wpd wwh, wag wwh, wsg, wdg, *, zT]) | (with_reducible (first | apply z1 | apply z2 | apply z3 | apply z4) <;> intro hq <;> (try simp only [zH] at hq) <;> (try (exfalso; omega))) | (with_reducible apply z5; (case hl => (repeat (first | exact .nil | with_reducible apply z6 | with_reducible apply z7))); (case h => kernel_rfl))))
      · rw [if_neg hge, reO, if_pos rfl]
        (repeat' (first | (simp -implicitDefEqProofs (maxSteps := 2000000) (disch := first | with_reducible assumption | omega | (simp only [zS, zA, seval, wab, wdg, wgb, wqb, zD] <;> omega) | fail) only [zS, argl, insA, Go.Den.wm, wo, wu, looks, wz, wy, idOf, riA, seval, Go.Den.wh, kK, wbb, wab, wgb, wqb, wpd wwh, wag wwh, wsg, wdg, *, zT]) | (with_reducible (first | apply z1 | apply z2 | apply z3 | apply z4) <;> intro hq <;> (try simp only [zH] at hq) <;> (try (exfalso; omega))) | (with_reducible apply z5; (case hl => (repeat (first | exact .nil | with_reducible apply z6 | with_reducible apply z7))); (case h => kernel_rfl))))
theorem on_all (hs : s.length ≤ 12) (hmn : 0 ≤ mn ∧ mn ≤ 20) (hmx : mx ≤ 20) (w : St → List St) (a : Int) (hk : KidOk s bol kids w) : ∀ k, OnC s bol mn mx nn set kids w a k ∧ OnN s bol mn mx nn set kids w a k := by
  intro k
  induction k with
  | zero => exact ⟨fun n x met out _ _ _ _ h => absurd h (Nat.not_lt_zero _), fun n x met _ _ _ _ h => absurd h (Nat.not_lt_zero _)⟩
  | succ k ih => exact ⟨ev_on_C s bol mn mx nn set kids hs hmn hmx w a hk k ih.1, ev_on_N s bol mn mx nn set kids hs hmn hmx w a hk k ih.1 ih.2⟩
end
end
end Go.Proofs.Ytdbhfmdndiphcaa
namespace Go.Proofs.Ytdbhfmdndiphcaa
set_option linter.unusedVariables false
set_option linter.unusedSimpArgs false
open Go.Den
noncomputable section
section
variable (s : List UInt8) (bol : Bool)
def grpF (n : Int) (x y : St) : St := (y.1, (y.2.put (n.toNat * 2) x.1).put (n.toNat * 2 + 1) y.1)
abbrev gfN (r : Rx) (x : St) : List ABlk := [X (rxC r) 47 0 true, X (stC x) 113 0 true, X [.slice none 0 0, .map (some 3)] 158 0 false, .map []]
abbrev gfC (r : Rx) (x : St) (out : List St) : List ABlk := [X (rxC r) 47 0 true, X (stC x) 113 0 true, X [FO 3 out.length (stsC out), .map (some 4)] 158 0 false, .tok out.length 113 9, .map (setK stC out)]
set_option maxHeartbeats 4000000 in
theorem wbfc (hs : s.length ≤ 12) (r : Rx) (n1 : 1 ≤ r.n) (n3 : r.n ≤ 3) (x : St) (hx : GdS s.length x) (l : List St) (hll : l.length ≤ 16000000) (hl : ∀ y ∈ l, GdS s.length y ∧ x.1 ≤ y.1) :
    ∀ (j i : Nat) (out : List St), i + j = l.length → out ≠ [] → RwS s.length x.1 out →
    lim Try.prog cfg (.loop 63 0 (wyb 0) (SE (EJ 158 G0) [(82, .int .i64 i), (81, .int .i64 l.length), (80, FL l.length (stsC l)), (8, .pointer (some ⟨2, 0, none⟩)), (5, .pointer (some ⟨1, 0, none⟩)), (4, .pointer (some ⟨0, 0, none⟩))])) (HP (gfC r x out)) = some (.code (.exit 1) (SE (EJ 158 G0) [(8, .pointer (some ⟨0, 0, none⟩))]), HP (rowC (wou (fun y => [grpF r.n x y]) (l.drop i) out))) := by
  intro j
  induction j with
  | zero =>
    intro i out hi ho hr
    rw [List.drop_of_length_le (by omega)]
    refine wcb wof ?_
    unfold wnf
    clear hl
    (repeat' (first | (simp -implicitDefEqProofs (maxSteps := 2000000) (disch := first | with_reducible assumption | omega | (simp only [zS, zA, seval, wab, zD] <;> omega) | fail) only [zS, argl, insA, Go.Den.wm, wo, wu, looks, wz, wy, idOf, riA, seval, Go.Den.wh, kK, wge, wab, *, zT]) | (with_reducible (first | apply z1 | apply z2 | apply z3 | apply z4) <;> intro hq <;> (try simp only [zH] at hq) <;> (try (exfalso; omega)))))
    all_goals rfl
  | succ j ih =>
    intro i out hi ho hr
    rw [wph l (by omega), wov]
    have hy := hl (l.getD i St.zero) (by rw [List.getD_eq_getElem?_getD, List.getElem?_eq_getElem (by omega)]; exact List.getElem_mem _)
    have h3 : RwS s.length x.1 (addF out [grpF r.n x (l.getD i St.zero)]) := hr.add (fun z hz => by rw [List.mem_singleton] at hz; subst hz; exact ⟨hx.group hy.1 hy.2 n1 n3, hy.2⟩)
    have hadd := wdr out [grpF r.n x (l.getD i St.zero)] ho (by simp) (by have := row_len h3 hs; omega)
    have h2 := ih (i + 1) _ (by omega) (waj (.inl ho)) h3
    rw [wwg, show [grpF r.n x (l.getD i St.zero)].length = 1 from rfl, show stC (grpF r.n x (l.getD i St.zero)) = .int .i64 (l.getD i St.zero).1 :: mtC (((l.getD i St.zero).2.put (r.n.toNat * 2) x.1).put (r.n.toNat * 2 + 1) (l.getD i St.zero).1) from rfl] at hadd
    refine wcb wof ?_
    unfold wnf
    clear ih hl h3 hr hy
    (repeat' (first | (simp -implicitDefEqProofs (maxSteps := 2000000) (disch := first | with_reducible assumption | omega | (simp only [zS, zA, seval, wab, wgb, zD] <;> omega) | fail) only [zS, argl, insA, Go.Den.wm, wo, wu, looks, wz, wy, idOf, riA, seval, Go.Den.wh, kK, wge, wab, wgb, *, zT]) | (with_reducible (first | apply z1 | apply z2 | apply z3 | apply z4) <;> intro hq <;> (try simp only [zH] at hq) <;> (try (exfalso; omega)))))
    exact h2
set_option maxHeartbeats 4000000 in
theorem wcfc (hs : s.length ≤ 12) (r : Rx) (n1 : 1 ≤ r.n) (n3 : r.n ≤ 3) (x : St) (hx : GdS s.length x) (l : List St) (hll : l.length ≤ 16000000) (hl : ∀ y ∈ l, GdS s.length y ∧ x.1 ≤ y.1) :
    lim Try.prog cfg (.loop 63 0 (wyb 0) (SE (EJ 158 G0) [(82, .int .i64 0), (81, .int .i64 l.length), (80, FL l.length (stsC l)), (8, .pointer (some ⟨2, 0, none⟩)), (5, .pointer (some ⟨1, 0, none⟩)), (4, .pointer (some ⟨0, 0, none⟩))])) (HP (gfN r x)) = some (.code (.exit 1) (SE (EJ 158 G0) [(8, .pointer (some ⟨0, 0, none⟩))]), HP (rowO (wou (fun y => [grpF r.n x y]) l []))) := by
  by_cases h0 : l = []
  · subst h0
    clear hl
    refine wcb wof ?_
    unfold wnf
    (repeat' (first | (simp -implicitDefEqProofs (maxSteps := 2000000) (disch := first | with_reducible assumption | omega | (simp only [zS, zA, seval, wab, zD] <;> omega) | fail) only [zS, argl, insA, Go.Den.wm, wo, wu, looks, wz, wy, idOf, riA, seval, Go.Den.wh, kK, wge, wab, *, zT]) | (with_reducible (first | apply z1 | apply z2 | apply z3 | apply z4) <;> intro hq <;> (try simp only [zH] at hq) <;> (try (exfalso; omega)))))
    all_goals rfl
  · have h00 : 0 < l.length := List.length_pos_iff.2 h0
    have hd := wph l h00
    rw [List.drop_zero] at hd
    have hy := hl (l.getD 0 St.zero) (by rw [List.getD_eq_getElem?_getD, List.getElem?_eq_getElem (by omega)]; exact List.getElem_mem _)
    have h3 : RwS s.length x.1 (addF [] [grpF r.n x (l.getD 0 St.zero)]) := RwS.nil.add (fun z hz => by rw [List.mem_singleton] at hz; subst hz; exact ⟨hx.group hy.1 hy.2 n1 n3, hy.2⟩)
    have hadd := wnu [grpF r.n x (l.getD 0 St.zero)] (by simp) (by simp) (by have := row_len h3 hs; omega)
    have h2 := wbfc s hs r n1 n3 x hx l hll hl (l.length - 1) 1 (addF [] [grpF r.n x (l.getD 0 St.zero)]) (by omega) (waj (.inr (by simp))) h3
    have he : wou (fun y => [grpF r.n x y]) l [] = wou (fun y => [grpF r.n x y]) (l.drop 1) (addF [] [grpF r.n x (l.getD 0 St.zero)]) := by
      conv => lhs; rw [hd]
      rfl
    rw [he, rowO, if_neg (wxpb _ _ _ (waj (.inr (by simp))))]
    rw [wwg, show [grpF r.n x (l.getD 0 St.zero)].length = 1 from rfl, show stC (grpF r.n x (l.getD 0 St.zero)) = .int .i64 (l.getD 0 St.zero).1 :: mtC (((l.getD 0 St.zero).2.put (r.n.toNat * 2) x.1).put (r.n.toNat * 2 + 1) (l.getD 0 St.zero).1) from rfl] at hadd
    have hg := wteb (l := l) (i := 0) h00
    rw [Nat.zero_mul] at hg
    refine wcb wof ?_
    unfold wnf
    clear hl h3 hy he hd
    (repeat' (first | (simp -implicitDefEqProofs (maxSteps := 2000000) (disch := first | with_reducible assumption | omega | (simp only [zS, zA, seval, wab, wgb, zD] <;> omega) | fail) only [zS, argl, insA, Go.Den.wm, wo, wu, looks, wz, wy, idOf, riA, seval, Go.Den.wh, kK, wge, wab, wgb, *, zT]) | (with_reducible (first | apply z1 | apply z2 | apply z3 | apply z4) <;> intro hq <;> (try simp only [zH] at hq) <;> (try (exfalso; omega)))))
    exact h2
def wyib (kids : List Rx) : Prop := ∀ r ∈ kids, ∀ y, GdS s.length y → RwS s.length y.1 (wjg s bol r y) ∧ lim Try.prog cfg (.call 63 [.agg ⟨[str s, .bool bol]⟩, .agg ⟨rxC r⟩, .agg ⟨stC y⟩]) (HP []) = some (.val (FL (wjg s bol r y).length (stsC (wjg s bol r y))), HP [])
theorem wbfb (kids : List Rx) {i : Nat} (h : i < kids.length) : kids.drop i = kids.getD i Rx.zero :: kids.drop (i + 1) := by
  rw [List.drop_eq_getElem_cons h, List.getD_eq_getElem?_getD, List.getElem?_eq_getElem h]; rfl
theorem wjnb (kids : List Rx) {i : Nat} (h : i < kids.length) : kids.getD i Rx.zero ∈ kids := by
  rw [List.getD_eq_getElem?_getD, List.getElem?_eq_getElem h]; exact List.getElem_mem _
abbrev afN (x : St) : List ABlk := [X [str s, .bool bol] 123 0 true, X (stC x) 113 0 true, X [.slice none 0 0, .map (some 3)] 158 0 false, .map []]
abbrev afC (x : St) (out : List St) : List ABlk := [X [str s, .bool bol] 123 0 true, X (stC x) 113 0 true, X [FO 3 out.length (stsC out), .map (some 4)] 158 0 false, .tok out.length 113 9, .map (setK stC out)]
theorem altF_ne {x : St} : ∀ (l : List Rx) (out : List St), out ≠ [] → altF s bol l x out ≠ [] := by
  intro l
  induction l with
  | nil => intro out h; rw [altF]; exact h
  | cons r l ih => intro out h; rw [altF]; exact ih _ (waj (.inl h))
set_option maxHeartbeats 4000000 in
theorem wdfc (hs : s.length ≤ 12) (x : St) (hx : GdS s.length x) (kids : List Rx) (hll : kids.length ≤ 16000000) (hk : wyib s bol kids) :
    ∀ (j i : Nat) (out : List St), i + j = kids.length → out ≠ [] → RwS s.length x.1 out →
    lim Try.prog cfg (.loop 63 0 (wyb 1) (SE (EJ 158 G0) [(110, .int .i64 i), (109, .int .i64 kids.length), (108, FL kids.length (rxsC kids)), (11, .pointer (some ⟨2, 0, none⟩)), (5, .pointer (some ⟨1, 0, none⟩)), (3, .pointer (some ⟨0, 0, none⟩))])) (HP (afC s bol x out)) = some (.code (.exit 3) (SE (EJ 158 G0) [(11, .pointer (some ⟨0, 0, none⟩))]), HP (rowC (altF s bol (kids.drop i) x out))) := by
  intro j
  induction j with
  | zero =>
    intro i out hi ho hr
    rw [List.drop_of_length_le (by omega), altF]
    refine wcb wce ?_
    unfold wee
    clear hk
    (repeat' (first | (simp -implicitDefEqProofs (maxSteps := 2000000) (disch := first | with_reducible assumption | omega | (simp only [zS, zA, seval, wab, zD] <;> omega) | fail) only [zS, argl, insA, Go.Den.wm, wo, wu, looks, wz, wy, idOf, riA, seval, Go.Den.wh, kK, wrd, wab, *, zT]) | (with_reducible (first | apply z1 | apply z2 | apply z3 | apply z4) <;> intro hq <;> (try simp only [zH] at hq) <;> (try (exfalso; omega)))))
  | succ j ih =>
    intro i out hi ho hr
    rw [wbfb kids (by omega), altF]
    have ⟨h1, h4⟩ := hk _ (wjnb kids (show i < kids.length by omega)) x hx
    have h3 := hr.add h1.good
    have h5 := row_len h1 hs
    have hadd := wdr out (wjg s bol (kids.getD i Rx.zero) x) ho (by omega) (by have := row_len h3 hs; omega)
    have h2 := ih (i + 1) _ (by omega) (waj (.inl ho)) h3
    refine wcb wce ?_
    unfold wee
    clear ih hk h3 h1 hr
    (repeat' (first | (simp -implicitDefEqProofs (maxSteps := 2000000) (disch := first | with_reducible assumption | omega | (simp only [zS, zA, seval, wab, wgb, zD] <;> omega) | fail) only [zS, argl, insA, Go.Den.wm, wo, wu, looks, wz, wy, idOf, riA, seval, Go.Den.wh, kK, wrd, wab, wgb, *, zT]) | (with_reducible (first | apply z1 | apply z2 | apply z3 | apply z4) <;> intro hq <;> (try simp only [zH] at hq) <;> (try (exfalso; omega)))))
    exact h2
set_option maxHeartbeats 4000000 in
theorem wefc (hs : s.length ≤ 12) (x : St) (hx : GdS s.length x) (kids : List Rx) (hll : kids.length ≤ 16000000) (hk : wyib s bol kids) :
    ∀ (j i : Nat), i + j = kids.length →
    lim Try.prog cfg (.loop 63 0 (wyb 1) (SE (EJ 158 G0) [(110, .int .i64 i), (109, .int .i64 kids.length), (108, FL kids.length (rxsC kids)), (11, .pointer (some ⟨2, 0, none⟩)), (5, .pointer (some ⟨1, 0, none⟩)), (3, .pointer (some ⟨0, 0, none⟩))])) (HP (afN s bol x)) = some (.code (.exit 3) (SE (EJ 158 G0) [(11, .pointer (some ⟨0, 0, none⟩))]), HP (rowO (altF s bol (kids.drop i) x []))) := by
  intro j
  induction j with
  | zero =>
    intro i hi
    rw [List.drop_of_length_le (by omega), altF]
    refine wcb wce ?_
    unfold wee
    clear hk
    (repeat' (first | (simp -implicitDefEqProofs (maxSteps := 2000000) (disch := first | with_reducible assumption | omega | (simp only [zS, zA, seval, wab, zD] <;> omega) | fail) only [zS, argl, insA, Go.Den.wm, wo, wu, looks, wz, wy, idOf, riA, seval, Go.Den.wh, kK, wrd, wab, *, zT]) | (with_reducible (first | apply z1 | apply z2 | apply z3 | apply z4) <;> intro hq <;> (try simp only [zH] at hq) <;> (try (exfalso; omega)))))
    all_goals rfl
  | succ j ih =>
    intro i hi
    rw [wbfb kids (by omega), altF]
    have ⟨h1, h4⟩ := hk _ (wjnb kids (show i < kids.length by omega)) x hx
    have h3 := (RwS.nil (len := s.length) (a := x.1)).add h1.good
    have h5 := row_len h1 hs
    by_cases hz : wjg s bol (kids.getD i Rx.zero) x = []
    · have h2 := ih (i + 1) (by omega)
      rw [hz] at h4 ⊢
      rw [List.length_nil, wueb] at h4
      refine wcb wce ?_
      unfold wee
      clear ih hk h3 h1 h5 hz
      (repeat' (first | (simp -implicitDefEqProofs (maxSteps := 2000000) (disch := first | with_reducible assumption | omega | (simp only [zS, zA, seval, wab, wgb, zD] <;> omega) | fail) only [zS, argl, insA, Go.Den.wm, wo, wu, looks, wz, wy, idOf, riA, seval, Go.Den.wh, kK, wrd, wab, wgb, wwpb, *, zT]) | (with_reducible (first | apply z1 | apply z2 | apply z3 | apply z4) <;> intro hq <;> (try simp only [zH] at hq) <;> (try (exfalso; omega)))))
      exact h2
    · have hadd := wnu (wjg s bol (kids.getD i Rx.zero) x) hz (by omega) (by have := row_len h3 hs; omega)
      have h2 := wdfc s bol hs x hx kids hll hk j (i + 1) (addF [] (wjg s bol (kids.getD i Rx.zero) x)) (by omega) (waj (.inr hz)) h3
      rw [rowO, if_neg (altF_ne s bol _ _ (waj (.inr hz)))]
      refine wcb wce ?_
      unfold wee
      clear ih hk h3 h1
      (repeat' (first | (simp -implicitDefEqProofs (maxSteps := 2000000) (disch := first | with_reducible assumption | omega | (simp only [zS, zA, seval, wab, wgb, zD] <;> omega) | fail) only [zS, argl, insA, Go.Den.wm, wo, wu, looks, wz, wy, idOf, riA, seval, Go.Den.wh, kK, wrd, wab, wgb, *, zT]) | (with_reducible (first | apply z1 | apply z2 | apply z3 | apply z4) <;> intro hq <;> (try simp only [zH] at hq) <;> (try (exfalso; omega)))))
      exact h2
set_option maxHeartbeats 4000000 in
theorem cat_loop (hs : s.length ≤ 12) (a : Int) (kids : List Rx) (hll : kids.length ≤ 16000000) (hk : wyib s bol kids) :
    ∀ (j i : Nat) (l : List St), i + j = kids.length → RwS s.length a l →
    lim Try.prog cfg (.loop 63 0 (wyb 2) (SE (EJ 158 G0) [(130, .int .i64 i), (129, .int .i64 kids.length), (128, FL kids.length (rxsC kids)), (7, FL l.length (stsC l)), (3, .pointer (some ⟨0, 0, none⟩))])) (HP [X [str s, .bool bol] 123 0 true]) = some (.code (.exit 5) (SE (EJ 158 G0) [(7, FL (catF s bol (kids.drop i) l).length (stsC (catF s bol (kids.drop i) l)))]), HP []) := by
  intro j
  induction j with
  | zero =>
    intro i l hi hr
    rw [List.drop_of_length_le (by omega), catF]
    refine wcb wqf ?_
    unfold wpf
    clear hk
    (repeat' (first | (simp -implicitDefEqProofs (maxSteps := 2000000) (disch := first | with_reducible assumption | omega | (simp only [zS, zA, seval, wab, zD] <;> omega) | fail) only [zS, argl, insA, Go.Den.wm, wo, wu, looks, wz, wy, idOf, riA, seval, Go.Den.wh, kK, whe, wab, *, zT]) | (with_reducible (first | apply z1 | apply z2 | apply z3 | apply z4) <;> intro hq <;> (try simp only [zH] at hq) <;> (try (exfalso; omega)))))
  | succ j ih =>
    intro i l hi hr
    rw [wbfb kids (by omega), catF]
    have hw := hk _ (wjnb kids (show i < kids.length by omega))
    have hf := wxec s hs bol (kids.getD i Rx.zero) (fun y => wjg s bol (kids.getD i Rx.zero) y) a l (by have := row_len hr hs; omega) hr.good hw
    have h3 : RwS s.length a (winb (fun y => wjg s bol (kids.getD i Rx.zero) y) l) := by
      refine RwS.fold _ l (fun z hz y hy => ?_) [] .nil
      have h1 := hr.good z hz
      have h2 := (hw z h1.1).1.good y hy
      exact ⟨h2.1, by omega⟩
    have h2 := ih (i + 1) _ (by omega) h3
    generalize winb (fun y => wjg s bol (kids.getD i Rx.zero) y) l = l2 at hf h2 ⊢
    refine wcb wqf ?_
    unfold wpf
    clear ih hk hw h3
    (repeat' (first | (simp -implicitDefEqProofs (maxSteps := 2000000) (disch := first | with_reducible assumption | omega | (simp only [zS, zA, seval, wab, wgb, zD] <;> omega) | fail) only [zS, argl, insA, Go.Den.wm, wo, wu, looks, wz, wy, idOf, riA, seval, Go.Den.wh, kK, whe, wab, wgb, *, zT]) | (with_reducible (first | apply z1 | apply z2 | apply z3 | apply z4) <;> intro hq <;> (try simp only [zH] at hq) <;> (try (exfalso; omega)))))
    exact h2
end
end
end Go.Proofs.Ytdbhfmdndiphcaa
namespace Go.Proofs.Ytdbhfmdndiphcaa
set_option linter.unusedVariables false
set_option linter.unusedSimpArgs false
open Go.Den
noncomputable section
theorem wknb (n : Int) (x : St) (l : List St) : groupW n x l = wou (fun y => [grpF n x y]) l [] := rfl
section
variable (s : List UInt8) (bol : Bool)
def wffc (r : Rx) : Prop := ∀ y, GdS s.length y → lim Try.prog cfg (.call 63 [.agg ⟨[str s, .bool bol]⟩, .agg ⟨rxC r⟩, .agg ⟨stC y⟩]) (HP []) = some (.val (FL (wjg s bol r y).length (stsC (wjg s bol r y))), HP [])
set_option maxHeartbeats 8000000 in
theorem wgfc (hs : s.length ≤ 12) (k mn mx n : Int) (set : BitVec 256) (kids : List Rx) (hlen : kids.length ≤ 16000000) (hok : okR (.mk k mn mx n set kids) = true) (ih : wyib s bol kids) : wffc s bol (.mk k mn mx n set kids) := by
  intro x hx
  have hlo := hx.lo
  have hhi := hx.hi
  have hrow := wmu (s := s) rfl (bol := bol) _ hok x hx
  refine wib hc whs (Nat.le_of_ble_eq_true rfl) (Nat.le_of_ble_eq_true rfl) ?_
  unfold wvo
  rw [wjg] at hrow ⊢
  rw [okR, Bool.and_eq_true] at hok
  have hok1 := hok.1
  clear hok
  by_cases h1 : k = 1
  · rw [if_pos h1]
    subst h1
    clear ih hrow hok1
    by_cases hx1 : x.1 < s.length
    · have hhas := ev_Has set ((s.getD x.1.toNat 0).toNat) (by have := (s.getD x.1.toNat 0).toNat_lt; omega)
      by_cases hb : set.getLsbD (s.getD x.1.toNat 0).toNat = true
      · rw [if_pos ⟨hx1, hb⟩]
        rw [hb] at hhas
        (repeat' (first | (simp -implicitDefEqProofs (maxSteps := 2000000) (disch := first | with_reducible assumption | omega | (simp only [zS, zA, seval, wme, zD] <;> omega) | fail) only [zS, argl, insA, Go.Den.wm, wo, wu, looks, wz, wy, idOf, riA, seval, Go.Den.wh, kK, *, zT]) | (with_reducible (first | apply z1 | apply z2 | apply z3 | apply z4) <;> intro hq <;> (try simp only [zH] at hq) <;> (try (exfalso; omega))) | (with_reducible apply z5; (case hl => (repeat (first | exact .nil | with_reducible apply z6 | with_reducible apply z7))); (case h => kernel_rfl))))
      · rw [if_neg (fun h => hb h.2)]
        have hb2 : set.getLsbD (s.getD x.1.toNat 0).toNat = false := by simpa using hb
        rw [hb2] at hhas
        clear hb
        (repeat' (first | (simp -implicitDefEqProofs (maxSteps := 2000000) (disch := first | with_reducible assumption | omega | (simp only [zS, zA, seval, zD] <;> omega) | fail) only [zS, argl, insA, Go.Den.wm, wo, wu, looks, wz, wy, idOf, riA, seval, Go.Den.wh, kK, *, zT]) | (with_reducible (first | apply z1 | apply z2 | apply z3 | apply z4) <;> intro hq <;> (try simp only [zH] at hq) <;> (try (exfalso; omega))) | (with_reducible apply z5; (case hl => (repeat (first | exact .nil | with_reducible apply z6 | with_reducible apply z7))); (case h => kernel_rfl))))
    · rw [if_neg (fun h => hx1 h.1)]
      (repeat' (first | (simp -implicitDefEqProofs (maxSteps := 2000000) (disch := first | with_reducible assumption | omega | (simp only [zS, zA, seval, zD] <;> omega) | fail) only [zS, argl, insA, Go.Den.wm, wo, wu, looks, wz, wy, idOf, riA, seval, Go.Den.wh, kK, *, zT]) | (with_reducible (first | apply z1 | apply z2 | apply z3 | apply z4) <;> intro hq <;> (try simp only [zH] at hq) <;> (try (exfalso; omega))) | (with_reducible apply z5; (case hl => (repeat (first | exact .nil | with_reducible apply z6 | with_reducible apply z7))); (case h => kernel_rfl))))
  rw [if_neg h1] at hrow ⊢
  by_cases h7 : k = 7
  · rw [if_pos h7]
    subst h7
    clear ih hrow hok1
    by_cases hx1 : x.1 = 0
    · cases bol with
      | true =>
        rw [if_pos ⟨hx1, rfl⟩]
        (repeat' (first | (simp -implicitDefEqProofs (maxSteps := 2000000) (disch := first | with_reducible assumption | omega | (simp only [zS, zA, seval, wmw, zD] <;> omega) | fail) only [zS, argl, insA, Go.Den.wm, wo, wu, looks, wz, wy, idOf, riA, seval, Go.Den.wh, kK, wab, *, zT]) | (with_reducible (first | apply z1 | apply z2 | apply z3 | apply z4) <;> intro hq <;> (try simp only [zH] at hq) <;> (try (exfalso; omega))) | (with_reducible apply z5; (case hl => (repeat (first | exact .nil | with_reducible apply z6 | with_reducible apply z7))); (case h => kernel_rfl))))
      | false =>
        rw [if_neg (fun h => by cases h.2)]
        (repeat' (first | (simp -implicitDefEqProofs (maxSteps := 2000000) (disch := first | with_reducible assumption | omega | (simp only [zS, zA, seval, zD] <;> omega) | fail) only [zS, argl, insA, Go.Den.wm, wo, wu, looks, wz, wy, idOf, riA, seval, Go.Den.wh, kK, *, zT]) | (with_reducible (first | apply z1 | apply z2 | apply z3 | apply z4) <;> intro hq <;> (try simp only [zH] at hq) <;> (try (exfalso; omega))) | (with_reducible apply z5; (case hl => (repeat (first | exact .nil | with_reducible apply z6 | with_reducible apply z7))); (case h => kernel_rfl))))
    · rw [if_neg (fun h => hx1 h.1)]
      (repeat' (first | (simp -implicitDefEqProofs (maxSteps := 2000000) (disch := first | with_reducible assumption | omega | (simp only [zS, zA, seval, zD] <;> omega) | fail) only [zS, argl, insA, Go.Den.wm, wo, wu, looks, wz, wy, idOf, riA, seval, Go.Den.wh, kK, *, zT]) | (with_reducible (first | apply z1 | apply z2 | apply z3 | apply z4) <;> intro hq <;> (try simp only [zH] at hq) <;> (try (exfalso; omega))) | (with_reducible apply z5; (case hl => (repeat (first | exact .nil | with_reducible apply z6 | with_reducible apply z7))); (case h => kernel_rfl))))
  rw [if_neg h7] at hrow ⊢
  by_cases h8 : k = 8
  · rw [if_pos h8]
    subst h8
    clear ih hrow hok1
    by_cases hx1 : x.1 = s.length
    · rw [if_pos hx1]
      (repeat' (first | (simp -implicitDefEqProofs (maxSteps := 2000000) (disch := first | with_reducible assumption | omega | (simp only [zS, zA, seval, wmw, zD] <;> omega) | fail) only [zS, argl, insA, Go.Den.wm, wo, wu, looks, wz, wy, idOf, riA, seval, Go.Den.wh, kK, *, zT]) | (with_reducible (first | apply z1 | apply z2 | apply z3 | apply z4) <;> intro hq <;> (try simp only [zH] at hq) <;> (try (exfalso; omega))) | (with_reducible apply z5; (case hl => (repeat (first | exact .nil | with_reducible apply z6 | with_reducible apply z7))); (case h => kernel_rfl))))
    · rw [if_neg hx1]
      (repeat' (first | (simp -implicitDefEqProofs (maxSteps := 2000000) (disch := first | with_reducible assumption | omega | (simp only [zS, zA, seval, zD] <;> omega) | fail) only [zS, argl, insA, Go.Den.wm, wo, wu, looks, wz, wy, idOf, riA, seval, Go.Den.wh, kK, *, zT]) | (with_reducible (first | apply z1 | apply z2 | apply z3 | apply z4) <;> intro hq <;> (try simp only [zH] at hq) <;> (try (exfalso; omega))) | (with_reducible apply z5; (case hl => (repeat (first | exact .nil | with_reducible apply z6 | with_reducible apply z7))); (case h => kernel_rfl))))
  rw [if_neg h8] at hrow ⊢
  by_cases h6 : k = 6
  · rw [if_pos h6]
    rw [if_neg (by omega), if_neg (by omega), if_pos h6] at hok1
    simp only [Bool.and_eq_true, decide_eq_true_eq] at hok1
    subst h6
    clear ih hrow
    have hb := ev_back s (by omega) bol n hok1.1 hok1.2 x hx
    (repeat' (first | (simp -implicitDefEqProofs (maxSteps := 2000000) (disch := first | with_reducible assumption | omega | (simp only [zS, zA, seval, zD] <;> omega) | fail) only [zS, argl, insA, Go.Den.wm, wo, wu, looks, wz, wy, idOf, riA, seval, Go.Den.wh, kK, *, zT]) | (with_reducible (first | apply z1 | apply z2 | apply z3 | apply z4) <;> intro hq <;> (try simp only [zH] at hq) <;> (try (exfalso; omega))) | (with_reducible apply z5; (case hl => (repeat (first | exact .nil | with_reducible apply z6 | with_reducible apply z7))); (case h => kernel_rfl))))
  rw [if_neg h6] at hrow ⊢
  by_cases h5 : k = 5
  · rw [if_pos h5] at hrow ⊢
    rw [if_pos h5] at hok1
    simp only [Bool.and_eq_true, decide_eq_true_eq] at hok1
    subst h5
    cases kids with
    | nil => exact absurd rfl hok1.1
    | cons kid rest =>
      rw [kidF, wknb]
      have ⟨r1, r2⟩ := ih kid (List.mem_cons_self ..) x hx
      have r3 := row_len r1 hs
      have hl := wcfc s hs (.mk 5 mn mx n set (kid :: rest)) hok1.2.1 hok1.2.2 x hx (wjg s bol kid x) (by omega) r1.good
      have hk : slotsOf (rxsC (kid :: rest)) 0 9 = rxC kid := by
        have := weu (l := kid :: rest) (i := 0) (by simp)
        rwa [Nat.zero_mul] at this
      rw [rx_n] at hl
      clear ih r1 hrow
      generalize wou (fun y => [grpF n x y]) (wjg s bol kid x) [] = out at hl ⊢
      by_cases ho : out = []
      · subst ho
        rw [rowO, if_pos rfl] at hl
        (repeat' (first | (simp -implicitDefEqProofs (maxSteps := 2000000) (disch := first | with_reducible assumption | omega | (simp only [zS, zA, seval, wab, wgb, zD] <;> omega) | fail) only [zS, argl, insA, Go.Den.wm, wo, wu, looks, wz, wy, idOf, riA, seval, Go.Den.wh, kK, wge, wab, wgb, wtk, *, zT]) | (with_reducible (first | apply z1 | apply z2 | apply z3 | apply z4) <;> intro hq <;> (try simp only [zH] at hq) <;> (try (exfalso; omega))) | (with_reducible apply z5; (case hl => (repeat (first | exact .nil | with_reducible apply z6 | with_reducible apply z7))); (case h => kernel_rfl))))
      · rw [rowO, if_neg ho] at hl
        (repeat' (first | (simp -implicitDefEqProofs (maxSteps := 2000000) (disch := first | with_reducible assumption | omega | (simp only [zS, zA, seval, wab, wgb, zD] <;> omega) | fail) only [zS, argl, insA, Go.Den.wm, wo, wu, looks, wz, wy, idOf, riA, seval, Go.Den.wh, kK, wge, wab, wgb, wtk, *, zT]) | (with_reducible (first | apply z1 | apply z2 | apply z3 | apply z4) <;> intro hq <;> (try simp only [zH] at hq) <;> (try (exfalso; omega))) | (with_reducible apply z5; (case hl => (repeat (first | exact .nil | with_reducible apply z6 | with_reducible apply z7))); (case h => kernel_rfl))))
  rw [if_neg h5] at hrow ⊢
  by_cases h3 : k = 3
  · rw [if_pos h3]
    subst h3
    have hl := wefc s bol hs x hx kids hlen ih kids.length 0 (by omega)
    rw [List.drop_zero, show ((0 : Nat) : Int) = 0 from rfl] at hl
    clear ih hrow hok1
    generalize altF s bol kids x [] = out at hl ⊢
    by_cases ho : out = []
    · subst ho
      rw [rowO, if_pos rfl] at hl
      (repeat' (first | (simp -implicitDefEqProofs (maxSteps := 2000000) (disch := first | with_reducible assumption | omega | (simp only [zS, zA, seval, wab, wgb, zD] <;> omega) | fail) only [zS, argl, insA, Go.Den.wm, wo, wu, looks, wz, wy, idOf, riA, seval, Go.Den.wh, kK, wrd, wab, wgb, wtk, *, zT]) | (with_reducible (first | apply z1 | apply z2 | apply z3 | apply z4) <;> intro hq <;> (try simp only [zH] at hq) <;> (try (exfalso; omega))) | (with_reducible apply z5; (case hl => (repeat (first | exact .nil | with_reducible apply z6 | with_reducible apply z7))); (case h => kernel_rfl))))
    · rw [rowO, if_neg ho] at hl
      (repeat' (first | (simp -implicitDefEqProofs (maxSteps := 2000000) (disch := first | with_reducible assumption | omega | (simp only [zS, zA, seval, wab, wgb, zD] <;> omega) | fail) only [zS, argl, insA, Go.Den.wm, wo, wu, looks, wz, wy, idOf, riA, seval, Go.Den.wh, kK, wrd, wab, wgb, wtk, *, zT]) | (with_reducible (first | apply z1 | apply z2 | apply z3 | apply z4) <;> intro hq <;> (try simp only [zH] at hq) <;> (try (exfalso; omega))) | (with_reducible apply z5; (case hl => (repeat (first | exact .nil | with_reducible apply z6 | with_reducible apply z7))); (case h => kernel_rfl))))
  rw [if_neg h3] at hrow ⊢
  by_cases h2 : k = 2
  · rw [if_pos h2]
    subst h2
    cases kids with
    | nil =>
      rw [catF]
      have hl : lim Try.prog cfg (.loop 63 0 (wyb 2) (SE (EJ 158 G0) [(130, .int .i64 0), (129, .int .i64 0), (128, FL 0 []), (7, .slice (some ⟨1, 0, none⟩) 1 2), (3, .pointer (some ⟨0, 0, none⟩))])) (HP [X [str s, .bool bol] 123 0 true, X (stC x) 113 0 true]) = some (.code (.exit 5) (SE (EJ 158 G0) [(7, .slice (some ⟨0, 0, none⟩) 1 2)]), HP [X (stC x) 113 0 true]) := by
        refine wcb wqf ?_
        unfold wpf
        clear ih hrow
        (repeat' (first | (simp -implicitDefEqProofs (maxSteps := 2000000) (disch := first | with_reducible assumption | omega | (simp only [zS, zA, seval, zD] <;> omega) | fail) only [zS, argl, insA, Go.Den.wm, wo, wu, looks, wz, wy, idOf, riA, seval, Go.Den.wh, kK, whe, *, zT]) | (with_reducible (first | apply z1 | apply z2 | apply z3 | apply z4) <;> intro hq <;> (try simp only [zH] at hq) <;> (try (exfalso; omega))) | (with_reducible apply z5; (case hl => (repeat (first | exact .nil | with_reducible apply z6 | with_reducible apply z7))); (case h => kernel_rfl))))
      clear ih hrow hok1
      (repeat' (first | (simp -implicitDefEqProofs (maxSteps := 2000000) (disch := first | with_reducible assumption | omega | (simp only [zS, zA, seval, zD] <;> omega) | fail) only [zS, argl, insA, Go.Den.wm, wo, wu, looks, wz, wy, idOf, riA, seval, Go.Den.wh, kK, whe, rxsC, Int.natCast_zero, *, zT]) | (with_reducible (first | apply z1 | apply z2 | apply z3 | apply z4) <;> intro hq <;> (try simp only [zH] at hq) <;> (try (exfalso; omega))) | (with_reducible apply z5; (case hl => (repeat (first | exact .nil | with_reducible apply z6 | with_reducible apply z7))); (case h => kernel_rfl))))
    | cons kid rest =>
      rw [catF]
      have hw := ih kid (List.mem_cons_self ..)
      have hf := wxec s hs bol kid (fun y => wjg s bol kid y) x.1 [x] (by simp) (fun y hy => by rw [List.mem_singleton] at hy; subst hy; exact ⟨hx, Int.le_refl _⟩) hw
      have hr : RwS s.length x.1 (winb (fun y => wjg s bol kid y) [x]) := by
        refine RwS.fold _ [x] (fun z hz y hy => ?_) [] .nil
        rw [List.mem_singleton] at hz
        subst hz
        exact (hw z hx).1.good y hy
      have hl := cat_loop s bol hs x.1 (kid :: rest) hlen ih rest.length 1 _ (by simp; omega) hr
      rw [show (kid :: rest).drop 1 = rest from rfl, show ((1 : Nat) : Int) = 1 from rfl] at hl
      rw [wwg, show [x].length = 1 from rfl] at hf
      have hk : slotsOf (rxsC (kid :: rest)) 0 9 = rxC kid := by
        have := weu (l := kid :: rest) (i := 0) (by simp)
        rwa [Nat.zero_mul] at this
      have hkl : 0 < (kid :: rest).length := by simp
      have hkc : 9 ≤ (rxsC (kid :: rest)).length := by rw [wmv, List.length_cons]; omega
      rw [List.length_cons] at hl
      generalize winb (fun y => wjg s bol kid y) [x] = l1 at hf hl ⊢
      have hl0 : lim Try.prog cfg (.loop 63 0 (wyb 2) (SE (EJ 158 G0) [(130, .int .i64 0), (129, .int .i64 (rest.length + 1 : Nat)), (128, FL (rest.length + 1) (rxsC (kid :: rest))), (7, .slice (some ⟨1, 0, none⟩) 1 2), (3, .pointer (some ⟨0, 0, none⟩))])) (HP [X [str s, .bool bol] 123 0 true, X (stC x) 113 0 true]) = some (.code (.exit 5) (SE (EJ 158 G0) [(7, FL (catF s bol rest l1).length (stsC (catF s bol rest l1)))]), HP []) := by
        refine wcb wqf ?_
        unfold wpf
        clear ih hrow hw hok1
        generalize rxsC (kid :: rest) = KC at *
        (repeat' (first | (simp -implicitDefEqProofs (maxSteps := 2000000) (disch := first | with_reducible assumption | omega | (simp only [zS, zA, seval, zD] <;> omega) | fail) only [zS, argl, insA, Go.Den.wm, wo, wu, looks, wz, wy, idOf, riA, seval, Go.Den.wh, kK, whe, *, zT]) | (with_reducible (first | apply z1 | apply z2 | apply z3 | apply z4) <;> intro hq <;> (try simp only [zH] at hq) <;> (try (exfalso; omega))) | (with_reducible apply z5; (case hl => (repeat (first | exact .nil | with_reducible apply z6 | with_reducible apply z7))); (case h => kernel_rfl))))
      clear ih hrow hok1 hw hl hf
      (repeat' (first | (simp -implicitDefEqProofs (maxSteps := 2000000) (disch := first | with_reducible assumption | omega | (simp only [zS, zA, seval, zD] <;> omega) | fail) only [zS, argl, insA, Go.Den.wm, wo, wu, looks, wz, wy, idOf, riA, seval, Go.Den.wh, kK, whe, *, zT]) | (with_reducible (first | apply z1 | apply z2 | apply z3 | apply z4) <;> intro hq <;> (try simp only [zH] at hq) <;> (try (exfalso; omega))) | (with_reducible apply z5; (case hl => (repeat (first | exact .nil | with_reducible apply z6 | with_reducible apply z7))); (case h => kernel_rfl))))
  rw [if_neg h2] at hrow ⊢
  by_cases h4 : k = 4
  · rw [if_pos h4]
    rw [if_neg (by omega), if_pos h4] at hok1
    simp only [Bool.and_eq_true, decide_eq_true_eq] at hok1
    subst h4
    cases kids with
    | nil => exact absurd rfl hok1.1
    | cons kid rest =>
      have hw := ih kid (List.mem_cons_self ..)
      have hk : slotsOf (rxsC (kid :: rest)) 0 9 = rxC kid := by
        have := weu (l := kid :: rest) (i := 0) (by simp)
        rwa [Nat.zero_mul] at this
      have hf : (fun y => kidF s bol (kid :: rest) y) = fun y => wjg s bol kid y := by funext y; rw [kidF]
      rw [hf]
      have hon := (on_all s bol mn mx n set (kid :: rest) hs ⟨hok1.2.1, hok1.2.2.1⟩ hok1.2.2.2.2 (fun y => wjg s bol kid y) x.1 ⟨kid, hk, by simp, hw⟩ 100).2 0 x [] (by omega) (by omega) hx (Int.le_refl _) (by unfold muF; split <;> omega)
      rcases hq : onF (fun y => wjg s bol kid y) mn mx 100 0 x ([], []) with ⟨met, out⟩
      rw [hq] at hon
      clear ih hrow hw hk hf hq hok1
      by_cases ho : out = []
      · subst ho
        rw [reO, if_pos rfl] at hon
        simp only [reN, repB, wqpb, List.length_cons] at hon
        (repeat' (first | (simp -implicitDefEqProofs (maxSteps := 2000000) (disch := first | with_reducible assumption | omega | (simp only [zS, zA, seval, wab, wgb, wqb, zD] <;> omega) | fail) only [zS, argl, insA, Go.Den.wm, wo, wu, looks, wz, wy, idOf, riA, seval, Go.Den.wh, kK, wab, wgb, wqb, wtk, whn, wdg, *, zT]) | (with_reducible (first | apply z1 | apply z2 | apply z3 | apply z4) <;> intro hq <;> (try simp only [zH] at hq) <;> (try (exfalso; omega))) | (with_reducible apply z5; (case hl => (repeat (first | exact .nil | with_reducible apply z6 | with_reducible apply z7))); (case h => kernel_rfl))))
      · rw [reO, if_neg ho] at hon
        simp only [reE, reN, repB, wqpb, List.length_cons] at hon
        (repeat' (first | (simp -implicitDefEqProofs (maxSteps := 2000000) (disch := first | with_reducible assumption | omega | (simp only [zS, zA, seval, wab, wgb, wqb, zD] <;> omega) | fail) only [zS, argl, insA, Go.Den.wm, wo, wu, looks, wz, wy, idOf, riA, seval, Go.Den.wh, kK, wab, wgb, wqb, wtk, whn, wdg, *, zT]) | (with_reducible (first | apply z1 | apply z2 | apply z3 | apply z4) <;> intro hq <;> (try simp only [zH] at hq) <;> (try (exfalso; omega))) | (with_reducible apply z5; (case hl => (repeat (first | exact .nil | with_reducible apply z6 | with_reducible apply z7))); (case h => kernel_rfl))))
  rw [if_neg h4]
  clear ih hrow hok1
  (repeat' (first | (simp -implicitDefEqProofs (maxSteps := 2000000) (disch := first | with_reducible assumption | omega | (simp only [zS, zA, seval, zD] <;> omega) | fail) only [zS, argl, insA, Go.Den.wm, wo, wu, looks, wz, wy, idOf, riA, seval, Go.Den.wh, kK, *, zT]) | (with_reducible (first | apply z1 | apply z2 | apply z3 | apply z4) <;> intro hq <;> (try simp only [zH] at hq) <;> (try (exfalso; omega))) | (with_reducible apply z5; (case hl => (repeat (first | exact .nil | with_reducible apply z6 | with_reducible apply z7))); (case h => kernel_rfl))))
end
end
end Go.Proofs.Ytdbhfmdndiphcaa
namespace Go.Proofs.Ytdbhfmdndiphcaa
set_option linter.unusedVariables false
set_option linter.unusedSimpArgs false
open Go.Den
noncomputable section
abbrev ints (l : List Int) : List Value := l.map (Value.int .i64)
theorem wpu {l : List Int} {i : Nat} (h : i < l.length) : (ints l)[i]? = some (.int .i64 (l.getD i 0)) := by
  rw [ints, List.getElem?_map, List.getD_eq_getElem?_getD, List.getElem?_eq_getElem h]; rfl
theorem wjf {l : List Int} : (ints l).length = l.length := List.length_map ..
theorem int_drop (l : List Int) {i : Nat} (h : i < l.length) : l.drop i = l.getD i 0 :: l.drop (i + 1) := by
  rw [List.drop_eq_getElem_cons h, List.getD_eq_getElem?_getD, List.getElem?_eq_getElem h]; rfl
theorem wpv (l : List Rx) {i : Nat} (h : i < l.length) : l.drop i = l.getD i Rx.zero :: l.drop (i + 1) := by
  rw [List.drop_eq_getElem_cons h, List.getD_eq_getElem?_getD, List.getElem?_eq_getElem h]; rfl
def fstF {α : Type} (p : α → Bool) : List α → Nat → Option Nat
  | [], _ => none
  | a :: l, i => if p a = true then some i else fstF p l (i + 1)
def fstV : Option Nat → Int
  | none => -1
  | some j => j
theorem whfc {α : Type} (p : α → Bool) : ∀ (l : List α) (i : Nat), decide (0 ≤ fstV (fstF p l i)) = l.any p := by
  intro l
  induction l with
  | nil => intro i; rfl
  | cons a l ih =>
    intro i
    rw [fstF, List.any_cons]
    by_cases h : p a = true
    · rw [if_pos h, h]; simp [fstV]
    · rw [if_neg h, ih]; simp [h]
theorem wdb {P : Program} {cs : wic} {R : Type} {K : KR R} {d : Option Tmp} {l : List RO} {e : Env} {H : AH} {wr : List Nat} {want : Bool} {x : ARes} : wxhb P cs K d l e H wr want x undef = opsR P cs K l (e.put d undef) H := by cases want <;> rfl
theorem wkb {want : Bool} : wxr want undef = some false := by cases want <;> rfl
theorem web : refs JK = [] := rfl
theorem wmb {m : Nm} : renV m JK = JK := rfl
theorem ej19 : (EJ 19 G0).get 4 = JK := rfl
def fstO (n : Nat) : Option Nat → Option (Out × AH)
  | none => some (.code (.exit 0) (SE (EJ n G0) [(4, JK)]), HP [])
  | some j => some (.code .ret (SE (EJ n G0) [(4, .int .i64 j)]), HP [])
theorem idx_loop (l : List Int) (hl : l.length ≤ 16000000) (v : Int) : ∀ (k i : Nat), i + k = l.length →
    lim Try.prog cfg (.loop 158 0 (woe 0) (SE (EJ 19 G0) [(8, .int .i64 i), (7, .int .i64 l.length), (1, .int .i64 v), (0, FL l.length (ints l))])) (HP []) = fstO 19 (fstF (fun a => decide (v = a)) (l.drop i) i) := by
  intro k
  induction k with
  | zero =>
    intro i hi
    rw [List.drop_of_length_le (by omega), fstF, fstO]
    refine wcb wmd ?_
    unfold wgd
    (repeat' (first | (simp -implicitDefEqProofs (maxSteps := 2000000) (disch := first | with_reducible assumption | omega | (simp only [zS, zA, seval, web, wmb] <;> omega) | fail) only [zS, argl, insA, Go.Den.wm, wo, wu, looks, wz, wy, idOf, riA, seval, Go.Den.wh, kK, wuc, wjf, web, wmb, ej19, *]) | (with_reducible (first | apply z1 | apply z2 | apply z3 | apply z4) <;> intro hq <;> (try simp only [zH] at hq) <;> (try (exfalso; omega)))))
  | succ k ih =>
    intro i hi
    rw [int_drop l (by omega), fstF]
    have h := ih (i + 1) (by omega)
    clear ih
    have hg := wpu (l := l) (i := i) (by omega)
    by_cases hv : v = l.getD i 0
    · rw [if_pos (by simpa using hv), fstO]
      clear h
      refine wcb wmd ?_
      unfold wgd
      (repeat' (first | (simp -implicitDefEqProofs (maxSteps := 2000000) (disch := first | with_reducible assumption | omega | (simp only [zS, zA, seval, web, wmb] <;> omega) | fail) only [zS, argl, insA, Go.Den.wm, wo, wu, looks, wz, wy, idOf, riA, seval, Go.Den.wh, kK, wuc, wjf, web, wmb, ej19, *]) | (with_reducible (first | apply z1 | apply z2 | apply z3 | apply z4) <;> intro hq <;> (try simp only [zH] at hq) <;> (try (exfalso; omega)))))
    · rw [if_neg (by simpa using hv)]
      generalize fstF (fun a => decide (v = a)) (l.drop (i + 1)) (i + 1) = o at h ⊢
      cases o with
      | none =>
        rw [fstO] at h ⊢
        refine wcb wmd ?_
        unfold wgd
        (repeat' (first | (simp -implicitDefEqProofs (maxSteps := 2000000) (disch := first | with_reducible assumption | omega | (simp only [zS, zA, seval, web, wmb] <;> omega) | fail) only [zS, argl, insA, Go.Den.wm, wo, wu, looks, wz, wy, idOf, riA, seval, Go.Den.wh, kK, wuc, wjf, web, wmb, ej19, *]) | (with_reducible (first | apply z1 | apply z2 | apply z3 | apply z4) <;> intro hq <;> (try simp only [zH] at hq) <;> (try (exfalso; omega)))))
        exact h
      | some j =>
        rw [fstO] at h ⊢
        refine wcb wmd ?_
        unfold wgd
        (repeat' (first | (simp -implicitDefEqProofs (maxSteps := 2000000) (disch := first | with_reducible assumption | omega | (simp only [zS, zA, seval, web, wmb] <;> omega) | fail) only [zS, argl, insA, Go.Den.wm, wo, wu, looks, wz, wy, idOf, riA, seval, Go.Den.wh, kK, wuc, wjf, web, wmb, ej19, *]) | (with_reducible (first | apply z1 | apply z2 | apply z3 | apply z4) <;> intro hq <;> (try simp only [zH] at hq) <;> (try (exfalso; omega)))))
        exact h
theorem ev_Index (l : List Int) (hl : l.length ≤ 16000000) (v : Int) : lim Try.prog cfg (.call 158 [FL l.length (ints l), .int .i64 v]) (HP []) = some (.val (.int .i64 (fstV (fstF (fun a => decide (v = a)) l 0))), HP []) := by
  refine wib hc wcm (Nat.le_of_ble_eq_true rfl) (Nat.le_of_ble_eq_true rfl) ?_
  unfold woj
  have h := idx_loop l hl v l.length 0 (by omega)
  rw [List.drop_zero, show ((0 : Nat) : Int) = 0 from rfl] at h
  generalize fstF (fun a => decide (v = a)) l 0 = o at h ⊢
  rcases o with _ | j
  · rw [fstO] at h
    (repeat' (first | (simp -implicitDefEqProofs (maxSteps := 2000000) (disch := first | with_reducible assumption | omega | (simp only [zS, zA, seval, web, wmb] <;> omega) | fail) only [zS, argl, insA, Go.Den.wm, wo, wu, looks, wz, wy, idOf, riA, seval, Go.Den.wh, kK, wuc, wjf, web, wmb, ej19, fstV, *]) | (with_reducible (first | apply z1 | apply z2 | apply z3 | apply z4) <;> intro hq <;> (try simp only [zH] at hq) <;> (try (exfalso; omega)))))
  · rw [fstO] at h
    (repeat' (first | (simp -implicitDefEqProofs (maxSteps := 2000000) (disch := first | with_reducible assumption | omega | (simp only [zS, zA, seval, web, wmb] <;> omega) | fail) only [zS, argl, insA, Go.Den.wm, wo, wu, looks, wz, wy, idOf, riA, seval, Go.Den.wh, kK, wuc, wjf, web, wmb, ej19, fstV, *]) | (with_reducible (first | apply z1 | apply z2 | apply z3 | apply z4) <;> intro hq <;> (try simp only [zH] at hq) <;> (try (exfalso; omega)))))
theorem wlnb (l : List Int) (hl : l.length ≤ 16000000) (v : Int) : lim Try.prog cfg (.call 149 [FL l.length (ints l), .int .i64 v]) (HP []) = some (.val (.bool (l.any fun a => decide (v = a))), HP []) := by
  refine wib hc wwk (Nat.le_of_ble_eq_true rfl) (Nat.le_of_ble_eq_true rfl) ?_
  unfold wzh
  have h := ev_Index l hl v
  rw [← whfc _ l 0]
  generalize fstV (fstF (fun a => decide (v = a)) l 0) = z at h ⊢
  (repeat' (first | (simp -implicitDefEqProofs (maxSteps := 2000000) (disch := first | with_reducible assumption | omega | (simp only [zS, zA, seval] <;> omega) | fail) only [zS, argl, insA, Go.Den.wm, wo, wu, looks, wz, wy, idOf, riA, seval, Go.Den.wh, kK, *]) | (with_reducible (first | apply z1 | apply z2 | apply z3 | apply z4) <;> intro hq <;> (try simp only [zH] at hq) <;> (try (exfalso; omega)))))
theorem ev_has1 (l : List Int) (hl : l.length ≤ 16000000) (r : Rx) : lim Try.prog cfg (.call 148 [.agg ⟨rxC r⟩, .pointer (some ⟨0, 0, none⟩)]) (HP [X [FL l.length (ints l)] 39 0 true]) = some (.val (.bool (l.any fun a => decide (r.kind = a))), HP [X [FL l.length (ints l)] 39 0 true]) := by
  refine wib hc wtab (Nat.le_of_ble_eq_true rfl) (Nat.le_of_ble_eq_true rfl) ?_
  unfold whz
  have h := wlnb l hl r.kind
  (repeat' (first | (simp -implicitDefEqProofs (maxSteps := 2000000) (disch := first | with_reducible assumption | omega | (simp only [zS, zA, seval, zD] <;> omega) | fail) only [zS, argl, insA, Go.Den.wm, wo, wu, looks, wz, wy, idOf, riA, seval, Go.Den.wh, kK, *, zT]) | (with_reducible (first | apply z1 | apply z2 | apply z3 | apply z4) <;> intro hq <;> (try simp only [zH] at hq) <;> (try (exfalso; omega)))))
end
end Go.Proofs.Ytdbhfmdndiphcaa
namespace Go.Proofs.Ytdbhfmdndiphcaa
set_option linter.unusedVariables false
set_option linter.unusedSimpArgs false
open Go.Den
noncomputable section
def wjj (l : List Int) (r : Rx) : Bool := l.any fun a => decide (r.kind = a)
abbrev hasFn : Value := .func (.func 148) ⟨[]⟩ ⟨[.pointer (some ⟨0, 0, none⟩)]⟩
abbrev hasB (l : List Int) : List ABlk := [X [FL l.length (ints l)] 39 0 true]
theorem hb_has1 : wln Try.prog 148 = true := by kernel_rfl
theorem wcfb {args : List Value} : dynA Try.prog hasFn args = .call 148 (args ++ [.pointer (some ⟨0, 0, none⟩)]) := by
  unfold dynA
  simp only [hb_has1, cond_true, List.nil_append]
theorem wmnb : cfg.know 148 = none := by kernel_rfl
def fstW (ks : List Int) (n : Nat) : Option Nat → Option (Out × AH)
  | none => some (.code (.exit 0) (SE (EJ n G0) [(4, JK)]), HP (hasB ks))
  | some j => some (.code .ret (SE (EJ n G0) [(4, .int .i64 j)]), HP (hasB ks))
theorem wifc (ks : List Int) (hks : ks.length ≤ 16000000) (l : List Rx) (hl : l.length ≤ 16000000) : ∀ (k i : Nat), i + k = l.length →
    lim Try.prog cfg (.loop 157 1 (wyc 0) (SE (EJ 19 G0) [(8, .int .i64 i), (7, .int .i64 l.length), (1, hasFn), (0, FL l.length (rxsC l))])) (HP (hasB ks)) = fstW ks 19 (fstF (wjj ks) (l.drop i) i) := by
  intro k
  induction k with
  | zero =>
    intro i hi
    rw [List.drop_of_length_le (by omega), fstF, fstW]
    refine wcb wkc ?_
    unfold wgc
    (repeat' (first | (simp -implicitDefEqProofs (maxSteps := 2000000) (disch := first | with_reducible assumption | omega | (simp only [zS, zA, seval, web, wmb, zD] <;> omega) | fail) only [zS, argl, insA, Go.Den.wm, wo, wu, looks, wz, wy, idOf, riA, seval, Go.Den.wh, kK, wxb, web, wmb, ej19, *, zT]) | (with_reducible (first | apply z1 | apply z2 | apply z3 | apply z4) <;> intro hq <;> (try simp only [zH] at hq) <;> (try (exfalso; omega)))))
  | succ k ih =>
    intro i hi
    rw [wpv l (by omega), fstF]
    have h := ih (i + 1) (by omega)
    clear ih
    have h1 := ev_has1 ks hks (l.getD i Rx.zero)
    by_cases hv : wjj ks (l.getD i Rx.zero) = true
    · rw [if_pos hv, fstW]
      unfold wjj at hv
      rw [hv] at h1
      clear h hv
      refine wcb wkc ?_
      unfold wgc
      (repeat' (first | (simp -implicitDefEqProofs (maxSteps := 2000000) (disch := first | with_reducible assumption | omega | (simp only [zS, zA, seval, zD] <;> omega) | fail) only [zS, argl, insA, Go.Den.wm, wo, wu, looks, wz, wy, idOf, riA, seval, Go.Den.wh, kK, wxb, wcfb, wmnb, *, zT]) | (with_reducible (first | apply z1 | apply z2 | apply z3 | apply z4) <;> intro hq <;> (try simp only [zH] at hq) <;> (try (exfalso; omega)))))
    · rw [if_neg hv]
      have hv2 : (ks.any fun a => decide ((l.getD i Rx.zero).kind = a)) = false := by show wjj ks _ = false; exact Bool.eq_false_iff.2 hv
      rw [hv2] at h1
      generalize fstF (wjj ks) (l.drop (i + 1)) (i + 1) = o at h ⊢
      clear hv hv2
      cases o with
      | none =>
        rw [fstW] at h ⊢
        refine wcb wkc ?_
        unfold wgc
        (repeat' (first | (simp -implicitDefEqProofs (maxSteps := 2000000) (disch := first | with_reducible assumption | omega | (simp only [zS, zA, seval, web, wmb, zD] <;> omega) | fail) only [zS, argl, insA, Go.Den.wm, wo, wu, looks, wz, wy, idOf, riA, seval, Go.Den.wh, kK, wxb, wcfb, wmnb, web, wmb, ej19, *, zT]) | (with_reducible (first | apply z1 | apply z2 | apply z3 | apply z4) <;> intro hq <;> (try simp only [zH] at hq) <;> (try (exfalso; omega)))))
        exact h
      | some j =>
        rw [fstW] at h ⊢
        refine wcb wkc ?_
        unfold wgc
        (repeat' (first | (simp -implicitDefEqProofs (maxSteps := 2000000) (disch := first | with_reducible assumption | omega | (simp only [zS, zA, seval, web, wmb, zD] <;> omega) | fail) only [zS, argl, insA, Go.Den.wm, wo, wu, looks, wz, wy, idOf, riA, seval, Go.Den.wh, kK, wxb, wcfb, wmnb, web, wmb, ej19, *, zT]) | (with_reducible (first | apply z1 | apply z2 | apply z3 | apply z4) <;> intro hq <;> (try simp only [zH] at hq) <;> (try (exfalso; omega)))))
        exact h
def wjfc (r : Rx) : Bool := !((decide (r.kind ≠ 1) && decide (r.set ≠ 0#256)) || (decide (r.kind ≠ 4) && (decide (r.mn ≠ 0) || decide (r.mx ≠ 0)))) && (decide (r.kind = 5) || (decide (r.kind = 6) || decide (r.n = 0)))
theorem waqb : [Value.int .u64 0, .int .u64 0, .int .u64 0, .int .u64 0] = setC 0#256 := rfl
theorem ev_bare (r : Rx) : lim Try.prog cfg (.call 96 [.agg ⟨rxC r⟩]) (HP []) = some (.val (.bool (wjfc r)), HP []) := by
  refine wib hc wreb (Nat.le_of_ble_eq_true rfl) (Nat.le_of_ble_eq_true rfl) ?_
  unfold wacb wjfc
  have hz : ∀ a b, eqcV true [.int .u64, .int .u64, .int .u64, .int .u64] (.agg ⟨setC a⟩) (.agg ⟨setC b⟩) = val (.bool (decide (a ≠ b))) := wrdc
  (repeat' (first | (simp -implicitDefEqProofs (maxSteps := 2000000) (disch := first | with_reducible assumption | omega | (simp only [zS, zA, seval, zD] <;> omega) | fail) only [zS, argl, insA, Go.Den.wm, wo, wu, looks, wz, wy, idOf, riA, seval, Go.Den.wh, kK, waqb, wdb, wkb, *, zT]) | (with_reducible (first | apply z1 | apply z2 | apply z3 | apply z4) <;> intro hq <;> (try simp only [zH] at hq) <;> (try (exfalso; omega)))))
def repF (r : Rx) : Bool := decide (0 ≤ r.mn) && (decide (r.mn ≤ 20) && (decide (r.mx = -1) || (decide (max r.mn 1 ≤ r.mx) && decide (r.mx ≤ 20))))
theorem ev_rep (r : Rx) : lim Try.prog cfg (.call 128 [.agg ⟨rxC r⟩]) (HP []) = some (.val (.bool (repF r)), HP []) := by
  refine wib hc wnib (Nat.le_of_ble_eq_true rfl) (Nat.le_of_ble_eq_true rfl) ?_
  unfold wmib repF
  (repeat' (first | (simp -implicitDefEqProofs (maxSteps := 2000000) (disch := first | with_reducible assumption | omega | (simp only [zS, zA, seval, zD] <;> omega) | fail) only [zS, argl, insA, Go.Den.wm, wo, wu, looks, wz, wy, idOf, riA, seval, Go.Den.wh, kK, wdb, wkb, *, zT]) | (with_reducible (first | apply z1 | apply z2 | apply z3 | apply z4) <;> intro hq <;> (try simp only [zH] at hq) <;> (try (exfalso; omega)))))
end
end Go.Proofs.Ytdbhfmdndiphcaa
namespace Go.Proofs.Ytdbhfmdndiphcaa
set_option linter.unusedVariables false
set_option linter.unusedSimpArgs false
open Go.Den
noncomputable section
theorem wzib (ks : List Int) (hks : ks.length ≤ 16000000) (l : List Rx) (hl : l.length ≤ 16000000) : lim Try.prog cfg (.call 157 [FL l.length (rxsC l), hasFn]) (HP (hasB ks)) = some (.val (.int .i64 (fstV (fstF (wjj ks) l 0))), HP (hasB ks)) := by
  refine wib hc wli (Nat.le_of_ble_eq_true rfl) (Nat.le_of_ble_eq_true rfl) ?_
  unfold wtf
  have h := wifc ks hks l hl l.length 0 (by omega)
  rw [List.drop_zero, show ((0 : Nat) : Int) = 0 from rfl] at h
  generalize fstF (wjj ks) l 0 = o at h ⊢
  cases o with
  | none =>
    rw [fstW] at h
    (repeat' (first | (simp -implicitDefEqProofs (maxSteps := 2000000) (disch := first | with_reducible assumption | omega | (simp only [zS, zA, seval, web, wmb, zD] <;> omega) | fail) only [zS, argl, insA, Go.Den.wm, wo, wu, looks, wz, wy, idOf, riA, seval, Go.Den.wh, kK, wxb, fstV, web, wmb, ej19, *, zT]) | (with_reducible (first | apply z1 | apply z2 | apply z3 | apply z4) <;> intro hq <;> (try simp only [zH] at hq) <;> (try (exfalso; omega)))))
  | some j =>
    rw [fstW] at h
    (repeat' (first | (simp -implicitDefEqProofs (maxSteps := 2000000) (disch := first | with_reducible assumption | omega | (simp only [zS, zA, seval, web, wmb, zD] <;> omega) | fail) only [zS, argl, insA, Go.Den.wm, wo, wu, looks, wz, wy, idOf, riA, seval, Go.Den.wh, kK, wxb, fstV, web, wmb, ej19, *, zT]) | (with_reducible (first | apply z1 | apply z2 | apply z3 | apply z4) <;> intro hq <;> (try simp only [zH] at hq) <;> (try (exfalso; omega)))))
theorem wnz (ks : List Int) (hks : ks.length ≤ 16000000) (l : List Rx) (hl : l.length ≤ 16000000) : lim Try.prog cfg (.call 147 [FL l.length (rxsC l), hasFn]) (HP (hasB ks)) = some (.val (.bool (l.any (wjj ks))), HP (hasB ks)) := by
  refine wib hc wnh (Nat.le_of_ble_eq_true rfl) (Nat.le_of_ble_eq_true rfl) ?_
  unfold wre
  have h := wzib ks hks l hl
  rw [← whfc _ l 0]
  generalize fstV (fstF (wjj ks) l 0) = z at h ⊢
  (repeat' (first | (simp -implicitDefEqProofs (maxSteps := 2000000) (disch := first | with_reducible assumption | omega | (simp only [zS, zA, seval, zD] <;> omega) | fail) only [zS, argl, insA, Go.Den.wm, wo, wu, looks, wz, wy, idOf, riA, seval, Go.Den.wh, kK, *, zT]) | (with_reducible (first | apply z1 | apply z2 | apply z3 | apply z4) <;> intro hq <;> (try simp only [zH] at hq) <;> (try (exfalso; omega)))))
theorem wnnb (ks : List Int) (hks : ks.length ≤ 16000000) (l : List Rx) (hl : l.length ≤ 16000000) : lim Try.prog cfg (.call 127 [FL l.length (rxsC l), FL ks.length (ints ks)]) (HP []) = some (.val (.bool (l.any (wjj ks))), HP []) := by
  refine wib hc wlib (Nat.le_of_ble_eq_true rfl) (Nat.le_of_ble_eq_true rfl) ?_
  unfold wkib
  have h := wnz ks hks l hl
  (repeat' (first | (simp -implicitDefEqProofs (maxSteps := 2000000) (disch := first | with_reducible assumption | omega | (simp only [zS, zA, seval, zD] <;> omega) | fail) only [zS, argl, insA, Go.Den.wm, wo, wu, looks, wz, wy, idOf, riA, seval, Go.Den.wh, kK, *, zT]) | (with_reducible (first | apply z1 | apply z2 | apply z3 | apply z4) <;> intro hq <;> (try simp only [zH] at hq) <;> (try (exfalso; omega)))))
end
end Go.Proofs.Ytdbhfmdndiphcaa
namespace Go.Den
set_option linter.unusedVariables false
set_option linter.unusedSimpArgs false
noncomputable section
mutual
def wec : Rx → Nat
  | .mk _ _ _ _ _ kids => 1 + wnb kids
def wnb : List Rx → Nat
  | [] => 0
  | r :: l => wec r + wnb l
end
theorem wkfc (r : Rx) : 1 ≤ wec r := by cases r; rw [wec]; omega
theorem woz : ∀ (l : List Rx), l.length ≤ wnb l := by
  intro l
  induction l with
  | nil => rw [wnb]; exact Nat.le_refl _
  | cons r l ih => rw [wnb, List.length_cons]; have := wkfc r; omega
theorem wjvb (l : List Rx) (i : Nat) : wnb (l.drop i) ≤ wnb l := by
  induction l generalizing i with
  | nil => rw [List.drop_nil]; exact Nat.le_refl _
  | cons a l ih =>
    cases i with
    | zero => rw [List.drop_zero]; exact Nat.le_refl _
    | succ i => rw [List.drop_succ_cons, wnb]; have := ih i; omega
end
end Go.Den
namespace Go.Proofs.Ytdbhfmdndiphcaa
open Go.Den
noncomputable section
def wqv (r : Rx) : Bool :=
  if r.kind = 1 then decide ((r.kids.length : Int) = 0) && decide (r.set ≠ 0#256)
  else if r.kind = 2 then decide ((r.kids.length : Int) ≠ 1) && !(r.kids.any (wjj [2, 3]))
  else if r.kind = 3 then decide ((2 : Int) ≤ r.kids.length) && !(r.kids.any (wjj [3]))
  else if r.kind = 4 then decide ((r.kids.length : Int) = 1) && (r.kids.any (wjj [1, 5, 6]) && repF r)
  else if r.kind = 5 then decide ((r.kids.length : Int) = 1)
  else if r.kind = 6 then decide ((r.kids.length : Int) = 0)
  else if r.kind = 7 then decide ((r.kids.length : Int) = 0)
  else if r.kind = 8 then decide ((r.kids.length : Int) = 0)
  else false
theorem ev_has2 (a b : Int) (l : List Rx) (hl : l.length ≤ 16000000) : lim Try.prog cfg (.call 127 [FL l.length (rxsC l), FL 2 [.int .i64 a, .int .i64 b]]) (HP []) = some (.val (.bool (l.any (wjj [a, b]))), HP []) := wnnb [a, b] (by simp) l hl
theorem wlfc (a : Int) (l : List Rx) (hl : l.length ≤ 16000000) : lim Try.prog cfg (.call 127 [FL l.length (rxsC l), FL 1 [.int .i64 a]]) (HP []) = some (.val (.bool (l.any (wjj [a]))), HP []) := wnnb [a] (by simp) l hl
theorem ev_has3 (a b c : Int) (l : List Rx) (hl : l.length ≤ 16000000) : lim Try.prog cfg (.call 127 [FL l.length (rxsC l), FL 3 [.int .i64 a, .int .i64 b, .int .i64 c]]) (HP []) = some (.val (.bool (l.any (wjj [a, b, c]))), HP []) := wnnb [a, b, c] (by simp) l hl
theorem ev_kids (r : Rx) (hl : r.kids.length ≤ 16000000) : lim Try.prog cfg (.call 97 [.agg ⟨rxC r⟩]) (HP []) = some (.val (.bool (wqv r)), HP []) := by
  refine wib hc wseb (Nat.le_of_ble_eq_true rfl) (Nat.le_of_ble_eq_true rfl) ?_
  unfold wbcb wqv
  have hz : ∀ a b, eqcV true [.int .u64, .int .u64, .int .u64, .int .u64] (.agg ⟨setC a⟩) (.agg ⟨setC b⟩) = val (.bool (decide (a ≠ b))) := wrdc
  have h2 := ev_has2 2 3 r.kids hl
  have h3 := wlfc 3 r.kids hl
  have h4 := ev_has3 1 5 6 r.kids hl
  have h5 := ev_rep r
  generalize r.kids.any (wjj [2, 3]) = b2 at h2 ⊢
  generalize r.kids.any (wjj [3]) = b3 at h3 ⊢
  generalize r.kids.any (wjj [1, 5, 6]) = b4 at h4 ⊢
  generalize repF r = b5 at h5 ⊢
  (repeat' (first | (simp -implicitDefEqProofs (maxSteps := 2000000) (disch := first | with_reducible assumption | omega | (simp only [zS, zA, seval, zD] <;> omega) | fail) only [zS, argl, insA, Go.Den.wm, wo, wu, looks, wz, wy, idOf, riA, seval, Go.Den.wh, kK, waqb, wdb, wkb, *, zT]) | (with_reducible (first | apply z1 | apply z2 | apply z3 | apply z4) <;> intro hq <;> (try simp only [zH] at hq) <;> (try (exfalso; omega)))))
  all_goals simp_all
theorem wkvb (l : List Rx) (hl : l.length ≤ 16000000) (hn : wnb l ≤ 1000000) (hk : ∀ r ∈ l, lim Try.prog cfg (.call 62 [.agg ⟨rxC r⟩]) (HP []) = some (.val (.int .i64 (wec r)), HP [])) :
    ∀ (k i : Nat) (a : Int), i + k = l.length → 0 ≤ a → a + wnb (l.drop i) ≤ 2000000 →
    lim Try.prog cfg (.loop 62 0 (wio 0) (SE (EJ 19 G0) [(9, .int .i64 i), (8, .int .i64 l.length), (7, FL l.length (rxsC l)), (3, .int .i64 a)])) (HP []) = some (.code (.exit 0) (SE (EJ 19 G0) [(3, .int .i64 (a + wnb (l.drop i)))]), HP []) := by
  intro k
  induction k with
  | zero =>
    intro i a hi h1 h2
    rw [List.drop_of_length_le (by omega), wnb]
    refine wcb wyo ?_
    unfold wjo
    clear hk
    (repeat' (first | (simp -implicitDefEqProofs (maxSteps := 2000000) (disch := first | with_reducible assumption | omega | (simp only [zS, zA, seval, zD] <;> omega) | fail) only [zS, argl, insA, Go.Den.wm, wo, wu, looks, wz, wy, idOf, riA, seval, Go.Den.wh, kK, wno, Int.natCast_zero, Int.add_zero, *, zT]) | (with_reducible (first | apply z1 | apply z2 | apply z3 | apply z4) <;> intro hq <;> (try simp only [zH] at hq) <;> (try (exfalso; omega)))))
  | succ k ih =>
    intro i a hi h1 h2
    rw [wpv l (by omega), wnb]
    have hr := hk _ (by rw [List.getD_eq_getElem?_getD, List.getElem?_eq_getElem (show i < l.length by omega)]; exact List.getElem_mem _ : l.getD i Rx.zero ∈ l)
    have hb : wec (l.getD i Rx.zero) + wnb (l.drop (i + 1)) ≤ wnb l := by
      have := wjvb l i
      rw [wpv l (by omega), wnb] at this
      exact this
    rw [wpv l (by omega), wnb] at h2
    have h := ih (i + 1) (a + wec (l.getD i Rx.zero)) (by omega) (by omega) (by omega)
    rw [show a + ((wec (l.getD i Rx.zero) + wnb (l.drop (i + 1)) : Nat) : Int) = a + (wec (l.getD i Rx.zero) : Int) + (wnb (l.drop (i + 1)) : Int) by omega]
    refine wcb wyo ?_
    unfold wjo
    clear hk ih
    (repeat' (first | (simp -implicitDefEqProofs (maxSteps := 2000000) (disch := first | with_reducible assumption | omega | (simp only [zS, zA, seval, zD] <;> omega) | fail) only [zS, argl, insA, Go.Den.wm, wo, wu, looks, wz, wy, idOf, riA, seval, Go.Den.wh, kK, wno, *, zT]) | (with_reducible (first | apply z1 | apply z2 | apply z3 | apply z4) <;> intro hq <;> (try simp only [zH] at hq) <;> (try (exfalso; omega)))))
    exact h
theorem ev_Nodes : ∀ r : Rx, wec r ≤ 1000000 → lim Try.prog cfg (.call 62 [.agg ⟨rxC r⟩]) (HP []) = some (.val (.int .i64 (wec r)), HP []) := by
  refine Rx.rec (motive_1 := fun r => wec r ≤ 1000000 → lim Try.prog cfg (.call 62 [.agg ⟨rxC r⟩]) (HP []) = some (.val (.int .i64 (wec r)), HP [])) (motive_2 := fun l => wnb l ≤ 1000000 → ∀ r ∈ l, lim Try.prog cfg (.call 62 [.agg ⟨rxC r⟩]) (HP []) = some (.val (.int .i64 (wec r)), HP [])) ?_ ?_ ?_
  · intro k mn mx n s l ih hn
    rw [wec] at hn
    have hl := woz l
    have h := wkvb l (by omega) (by omega) (ih (by omega)) l.length 0 1 (by omega) (by omega) (by rw [List.drop_zero]; omega)
    rw [List.drop_zero, show ((0 : Nat) : Int) = 0 from rfl] at h
    rw [wec, show ((1 + wnb l : Nat) : Int) = 1 + (wnb l : Int) by omega]
    refine wib hc wrab (Nat.le_of_ble_eq_true rfl) (Nat.le_of_ble_eq_true rfl) ?_
    unfold wfz
    clear ih
    (repeat' (first | (simp -implicitDefEqProofs (maxSteps := 2000000) (disch := first | with_reducible assumption | omega | (simp only [zS, zA, seval, zD] <;> omega) | fail) only [zS, argl, insA, Go.Den.wm, wo, wu, looks, wz, wy, idOf, riA, seval, Go.Den.wh, kK, wno, *, zT]) | (with_reducible (first | apply z1 | apply z2 | apply z3 | apply z4) <;> intro hq <;> (try simp only [zH] at hq) <;> (try (exfalso; omega)))))
  · intro _ r h; cases h
  · intro r l h1 h2 hn x hx
    rw [wnb] at hn
    rcases List.mem_cons.1 hx with rfl | hx
    · exact h1 (by omega)
    · exact h2 (by omega) x hx
theorem wccb (r : Rx) (g : Int) : lim Try.prog cfg (.call 78 [.pointer (some ⟨0, 0, none⟩), .agg ⟨rxC r⟩]) (HP [X [.bool true, .int .i64 g] 143 0 true]) = some (.val (.bool true), HP [X [.bool true, .int .i64 g] 143 0 true]) := by
  refine wib hc wko (Nat.le_of_ble_eq_true rfl) (Nat.le_of_ble_eq_true rfl) ?_
  unfold wbl
  (repeat' (first | (simp -implicitDefEqProofs (maxSteps := 2000000) (disch := first | with_reducible assumption | omega | (simp only [zS, zA, seval, zD] <;> omega) | fail) only [zS, argl, insA, Go.Den.wm, wo, wu, looks, wz, wy, idOf, riA, seval, Go.Den.wh, kK, wdb, wkb, *, zT]) | (with_reducible (first | apply z1 | apply z2 | apply z3 | apply z4) <;> intro hq <;> (try simp only [zH] at hq) <;> (try (exfalso; omega)))))
end
end Go.Proofs.Ytdbhfmdndiphcaa
namespace Go.Proofs.Ytdbhfmdndiphcaa
set_option linter.unusedVariables false
set_option linter.unusedSimpArgs false
open Go.Den
noncomputable section
mutual
def wuk : Rx → Int → Int → Bool × Int
  | .mk k mn mx n s kids, d, g =>
    if wjfc (.mk k mn mx n s kids) = true then
      if wqv (.mk k mn mx n s kids) = true then
        if k = 5 then (if n = g + 1 then (if d + 1 ≤ 6 then wai kids (d + 1) (g + 1) else (false, g + 1)) else (false, g + 1))
        else if k = 6 then (decide (1 ≤ n) && decide (n ≤ g), g)
        else wai kids d g
      else (false, g)
    else (false, g)
def wai : List Rx → Int → Int → Bool × Int
  | [], _, g => (true, g)
  | r :: l, d, g => if (wuk r d g).1 = true then wai l d (wuk r d g).2 else (false, (wuk r d g).2)
end
theorem wdfb : ∀ (r : Rx) (d g : Int), g ≤ (wuk r d g).2 ∧ (wuk r d g).2 ≤ g + wec r := by
  refine Rx.rec (motive_1 := fun r => ∀ (d g : Int), g ≤ (wuk r d g).2 ∧ (wuk r d g).2 ≤ g + wec r) (motive_2 := fun l => ∀ (d g : Int), g ≤ (wai l d g).2 ∧ (wai l d g).2 ≤ g + wnb l) ?_ ?_ ?_
  · intro k mn mx n s l ih d g
    rw [wuk, wec]
    have h1 := ih (d + 1) (g + 1)
    have h2 := ih d g
    repeat' split
    all_goals first | (constructor <;> simp <;> omega) | omega
  · intro d g; rw [wai, wnb]; exact ⟨Int.le_refl _, by simp⟩
  · intro r l h1 h2 d g
    rw [wai, wnb]
    have h3 := h1 d g
    have h4 := h2 d (wuk r d g).2
    split
    · omega
    · simp; omega
abbrev wkB (g : Int) : List ABlk := [X [.bool true, .int .i64 g] 143 0 true]
def wefb (w : Bool × Int) : Option (Out × AH) := if w.1 = true then some (.code (.exit 1) (SE (EJ 89 G0) [(6, JK)]), HP (wkB w.2)) else some (.code .ret (SE (EJ 89 G0) [(6, .bool false)]), HP (wkB w.2))
theorem ej89 : (EJ 89 G0).get 6 = JK := rfl
def wdcb (r : Rx) : Prop := ∀ d g : Int, 0 ≤ d → d ≤ 1000 → 0 ≤ g → g + wec r ≤ 2000000 → lim Try.prog cfg (.call 79 [.pointer (some ⟨0, 0, none⟩), .agg ⟨rxC r⟩, .int .i64 d]) (HP (wkB g)) = some (.val (.bool (wuk r d g).1), HP (wkB (wuk r d g).2))
theorem wajb (l : List Rx) (hl : l.length ≤ 16000000) (hk : ∀ r ∈ l, wdcb r) (d : Int) (hd : 0 ≤ d) (hd2 : d ≤ 1000) :
    ∀ (k i : Nat) (g : Int), i + k = l.length → 0 ≤ g → g + wnb (l.drop i) ≤ 2000000 →
    lim Try.prog cfg (.loop 79 1 (wth 0) (SE (EJ 89 G0) [(79, .int .i64 i), (78, .int .i64 l.length), (77, FL l.length (rxsC l)), (2, .int .i64 d), (0, .pointer (some ⟨0, 0, none⟩))])) (HP (wkB g)) = wefb (wai (l.drop i) d g) := by
  intro k
  induction k with
  | zero =>
    intro i g hi h1 h2
    rw [List.drop_of_length_le (by omega), wai, wefb, if_pos rfl]
    refine wcb wdf ?_
    unfold wbf
    clear hk
    (repeat' (first | (simp -implicitDefEqProofs (maxSteps := 2000000) (disch := first | with_reducible assumption | omega | (simp only [zS, zA, seval, web, wmb, zD] <;> omega) | fail) only [zS, argl, insA, Go.Den.wm, wo, wu, looks, wz, wy, idOf, riA, seval, Go.Den.wh, kK, wwb, web, wmb, ej89, *, zT]) | (with_reducible (first | apply z1 | apply z2 | apply z3 | apply z4) <;> intro hq <;> (try simp only [zH] at hq) <;> (try (exfalso; omega)))))
  | succ k ih =>
    intro i g hi h1 h2
    rw [wpv l (by omega), wnb] at h2
    rw [wpv l (by omega), wai]
    have hr := hk _ (by rw [List.getD_eq_getElem?_getD, List.getElem?_eq_getElem (show i < l.length by omega)]; exact List.getElem_mem _ : l.getD i Rx.zero ∈ l) d g hd hd2 h1 (by omega)
    have hw := wdfb (l.getD i Rx.zero) d g
    have h := ih (i + 1) (wuk (l.getD i Rx.zero) d g).2 (by omega) (by omega) (by omega)
    generalize wuk (l.getD i Rx.zero) d g = w at hr hw h ⊢
    obtain ⟨b, g2⟩ := w
    clear hk ih
    cases b with
    | false =>
      rw [if_neg (by simp), wefb, if_neg (by simp)]
      clear h
      refine wcb wdf ?_
      unfold wbf
      (repeat' (first | (simp -implicitDefEqProofs (maxSteps := 2000000) (disch := first | with_reducible assumption | omega | (simp only [zS, zA, seval, zD] <;> omega) | fail) only [zS, argl, insA, Go.Den.wm, wo, wu, looks, wz, wy, idOf, riA, seval, Go.Den.wh, kK, wwb, *, zT]) | (with_reducible (first | apply z1 | apply z2 | apply z3 | apply z4) <;> intro hq <;> (try simp only [zH] at hq) <;> (try (exfalso; omega)))))
    | true =>
      rw [if_pos rfl]
      generalize wai (l.drop (i + 1)) d (true, g2).2 = w2 at h ⊢
      obtain ⟨b2, g3⟩ := w2
      cases b2 with
      | true =>
        rw [wefb, if_pos rfl] at h ⊢
        refine wcb wdf ?_
        unfold wbf
        (repeat' (first | (simp -implicitDefEqProofs (maxSteps := 2000000) (disch := first | with_reducible assumption | omega | (simp only [zS, zA, seval, web, wmb, zD] <;> omega) | fail) only [zS, argl, insA, Go.Den.wm, wo, wu, looks, wz, wy, idOf, riA, seval, Go.Den.wh, kK, wwb, web, wmb, ej89, *, zT]) | (with_reducible (first | apply z1 | apply z2 | apply z3 | apply z4) <;> intro hq <;> (try simp only [zH] at hq) <;> (try (exfalso; omega)))))
        exact h
      | false =>
        rw [wefb, if_neg (by simp)] at h ⊢
        refine wcb wdf ?_
        unfold wbf
        (repeat' (first | (simp -implicitDefEqProofs (maxSteps := 2000000) (disch := first | with_reducible assumption | omega | (simp only [zS, zA, seval, web, wmb, zD] <;> omega) | fail) only [zS, argl, insA, Go.Den.wm, wo, wu, looks, wz, wy, idOf, riA, seval, Go.Den.wh, kK, wwb, web, wmb, ej89, *, zT]) | (with_reducible (first | apply z1 | apply z2 | apply z3 | apply z4) <;> intro hq <;> (try simp only [zH] at hq) <;> (try (exfalso; omega)))))
        exact h
end
end Go.Proofs.Ytdbhfmdndiphcaa
namespace Go.Proofs.Ytdbhfmdndiphcaa
set_option linter.unusedVariables false
set_option linter.unusedSimpArgs false
open Go.Den
noncomputable section
set_option maxHeartbeats 4000000 in
theorem wmfc (k mn mx n : Int) (set : BitVec 256) (kids : List Rx) (hl : kids.length ≤ 16000000) (ih : ∀ r ∈ kids, wdcb r) : wdcb (.mk k mn mx n set kids) := by
  intro d g hd hd2 hg hgn
  rw [wec] at hgn
  have hb := ev_bare (.mk k mn mx n set kids)
  have hk := ev_kids (.mk k mn mx n set kids) hl
  rw [wuk]
  refine wib hc whr (Nat.le_of_ble_eq_true rfl) (Nat.le_of_ble_eq_true rfl) ?_
  unfold wfn
  cases hbv : wjfc (.mk k mn mx n set kids) with
  | false =>
    rw [if_neg (by simp)]
    rw [hbv] at hb
    clear hk ih hbv
    (repeat' (first | (simp -implicitDefEqProofs (maxSteps := 2000000) (disch := first | with_reducible assumption | omega | (simp only [zS, zA, seval, zD] <;> omega) | fail) only [zS, argl, insA, Go.Den.wm, wo, wu, looks, wz, wy, idOf, riA, seval, Go.Den.wh, kK, wwb, wdb, wkb, *, zT]) | (with_reducible (first | apply z1 | apply z2 | apply z3 | apply z4) <;> intro hq <;> (try simp only [zH] at hq) <;> (try (exfalso; omega))) | (with_reducible apply z5; (case hl => (repeat (first | exact .nil | with_reducible apply z6 | with_reducible apply z7))); (case h => kernel_rfl))))
  | true =>
  rw [if_pos rfl]
  rw [hbv] at hb
  clear hbv
  cases hkv : wqv (.mk k mn mx n set kids) with
  | false =>
    rw [if_neg (by simp)]
    rw [hkv] at hk
    clear ih hkv
    (repeat' (first | (simp -implicitDefEqProofs (maxSteps := 2000000) (disch := first | with_reducible assumption | omega | (simp only [zS, zA, seval, zD] <;> omega) | fail) only [zS, argl, insA, Go.Den.wm, wo, wu, looks, wz, wy, idOf, riA, seval, Go.Den.wh, kK, wwb, wdb, wkb, *, zT]) | (with_reducible (first | apply z1 | apply z2 | apply z3 | apply z4) <;> intro hq <;> (try simp only [zH] at hq) <;> (try (exfalso; omega))) | (with_reducible apply z5; (case hl => (repeat (first | exact .nil | with_reducible apply z6 | with_reducible apply z7))); (case h => kernel_rfl))))
  | true =>
  rw [if_pos rfl]
  rw [hkv] at hk
  by_cases h5 : k = 5
  · subst h5
    rw [if_pos rfl]
    have hlen : kids.length = 1 := by
      have h3 : decide ((kids.length : Int) = 1) = true := hkv
      rw [decide_eq_true_eq] at h3
      omega
    have hs : slotsOf (rxsC kids) 0 9 = rxC (kids.getD 0 Rx.zero) := by
      have := weu (l := kids) (i := 0) (by omega)
      rwa [Nat.zero_mul] at this
    have hcl : 9 ≤ (rxsC kids).length := by rw [wmv, hlen]; omega
    have hz : 0 < kids.length := by omega
    have ha := wccb (kids.getD 0 Rx.zero) (g + 1)
    clear hkv hlen
    by_cases hn : n = g + 1
    · rw [if_pos hn]
      by_cases hd6 : d + 1 ≤ 6
      · rw [if_pos hd6]
        have h := wajb kids hl ih (d + 1) (by omega) (by omega) kids.length 0 (g + 1) (by omega) (by omega) (by rw [List.drop_zero]; omega)
        rw [List.drop_zero, show ((0 : Nat) : Int) = 0 from rfl] at h
        generalize wai kids (d + 1) (g + 1) = w at h ⊢
        obtain ⟨b, g2⟩ := w
        clear ih
        subst hn
        cases b with
        | true =>
          rw [wefb, if_pos rfl] at h
          (repeat' (first | (simp -implicitDefEqProofs (maxSteps := 2000000) (disch := first | with_reducible assumption | omega | (simp only [zS, zA, seval, web, wmb, zD] <;> omega) | fail) only [zS, argl, insA, Go.Den.wm, wo, wu, looks, wz, wy, idOf, riA, seval, Go.Den.wh, kK, wwb, wdb, wkb, web, wmb, ej89, *, zT]) | (with_reducible (first | apply z1 | apply z2 | apply z3 | apply z4) <;> intro hq <;> (try simp only [zH] at hq) <;> (try (exfalso; omega))) | (with_reducible apply z5; (case hl => (repeat (first | exact .nil | with_reducible apply z6 | with_reducible apply z7))); (case h => kernel_rfl))))
        | false =>
          rw [wefb, if_neg (by simp)] at h
          (repeat' (first | (simp -implicitDefEqProofs (maxSteps := 2000000) (disch := first | with_reducible assumption | omega | (simp only [zS, zA, seval, web, wmb, zD] <;> omega) | fail) only [zS, argl, insA, Go.Den.wm, wo, wu, looks, wz, wy, idOf, riA, seval, Go.Den.wh, kK, wwb, wdb, wkb, web, wmb, ej89, *, zT]) | (with_reducible (first | apply z1 | apply z2 | apply z3 | apply z4) <;> intro hq <;> (try simp only [zH] at hq) <;> (try (exfalso; omega))) | (with_reducible apply z5; (case hl => (repeat (first | exact .nil | with_reducible apply z6 | with_reducible apply z7))); (case h => kernel_rfl))))
      · rw [if_neg hd6]
        clear ih
        subst hn
        (repeat' (first | (simp -implicitDefEqProofs (maxSteps := 2000000) (disch := first | with_reducible assumption | omega | (simp only [zS, zA, seval, zD] <;> omega) | fail) only [zS, argl, insA, Go.Den.wm, wo, wu, looks, wz, wy, idOf, riA, seval, Go.Den.wh, kK, wwb, wdb, wkb, *, zT]) | (with_reducible (first | apply z1 | apply z2 | apply z3 | apply z4) <;> intro hq <;> (try simp only [zH] at hq) <;> (try (exfalso; omega))) | (with_reducible apply z5; (case hl => (repeat (first | exact .nil | with_reducible apply z6 | with_reducible apply z7))); (case h => kernel_rfl))))
    · rw [if_neg hn]
      clear ih
      (repeat' (first | (simp -implicitDefEqProofs (maxSteps := 2000000) (disch := first | with_reducible assumption | omega | (simp only [zS, zA, seval, zD] <;> omega) | fail) only [zS, argl, insA, Go.Den.wm, wo, wu, looks, wz, wy, idOf, riA, seval, Go.Den.wh, kK, wwb, wdb, wkb, *, zT]) | (with_reducible (first | apply z1 | apply z2 | apply z3 | apply z4) <;> intro hq <;> (try simp only [zH] at hq) <;> (try (exfalso; omega))) | (with_reducible apply z5; (case hl => (repeat (first | exact .nil | with_reducible apply z6 | with_reducible apply z7))); (case h => kernel_rfl))))
  rw [if_neg h5]
  clear hkv
  by_cases h6 : k = 6
  · subst h6
    rw [if_pos rfl]
    clear ih
    (repeat' (first | (simp -implicitDefEqProofs (maxSteps := 2000000) (disch := first | with_reducible assumption | omega | (simp only [zS, zA, seval, zD] <;> omega) | fail) only [zS, argl, insA, Go.Den.wm, wo, wu, looks, wz, wy, idOf, riA, seval, Go.Den.wh, kK, wwb, wdb, wkb, *, zT]) | (with_reducible (first | apply z1 | apply z2 | apply z3 | apply z4) <;> intro hq <;> (try simp only [zH] at hq) <;> (try (exfalso; omega))) | (with_reducible apply z5; (case hl => (repeat (first | exact .nil | with_reducible apply z6 | with_reducible apply z7))); (case h => kernel_rfl))))
  rw [if_neg h6]
  have h := wajb kids hl ih d (by omega) (by omega) kids.length 0 g (by omega) (by omega) (by rw [List.drop_zero]; omega)
  rw [List.drop_zero, show ((0 : Nat) : Int) = 0 from rfl] at h
  generalize wai kids d g = w at h ⊢
  obtain ⟨b, g2⟩ := w
  clear ih
  cases b with
  | true =>
    rw [wefb, if_pos rfl] at h
    (repeat' (first | (simp -implicitDefEqProofs (maxSteps := 2000000) (disch := first | with_reducible assumption | omega | (simp only [zS, zA, seval, web, wmb, zD] <;> omega) | fail) only [zS, argl, insA, Go.Den.wm, wo, wu, looks, wz, wy, idOf, riA, seval, Go.Den.wh, kK, wwb, wdb, wkb, web, wmb, ej89, *, zT]) | (with_reducible (first | apply z1 | apply z2 | apply z3 | apply z4) <;> intro hq <;> (try simp only [zH] at hq) <;> (try (exfalso; omega))) | (with_reducible apply z5; (case hl => (repeat (first | exact .nil | with_reducible apply z6 | with_reducible apply z7))); (case h => kernel_rfl))))
  | false =>
    rw [wefb, if_neg (by simp)] at h
    (repeat' (first | (simp -implicitDefEqProofs (maxSteps := 2000000) (disch := first | with_reducible assumption | omega | (simp only [zS, zA, seval, web, wmb, zD] <;> omega) | fail) only [zS, argl, insA, Go.Den.wm, wo, wu, looks, wz, wy, idOf, riA, seval, Go.Den.wh, kK, wwb, wdb, wkb, web, wmb, ej89, *, zT]) | (with_reducible (first | apply z1 | apply z2 | apply z3 | apply z4) <;> intro hq <;> (try simp only [zH] at hq) <;> (try (exfalso; omega))) | (with_reducible apply z5; (case hl => (repeat (first | exact .nil | with_reducible apply z6 | with_reducible apply z7))); (case h => kernel_rfl))))
theorem ev_walk : ∀ r : Rx, wec r ≤ 1000000 → wdcb r := by
  refine Rx.rec (motive_1 := fun r => wec r ≤ 1000000 → wdcb r) (motive_2 := fun l => wnb l ≤ 1000000 → ∀ r ∈ l, wdcb r) ?_ ?_ ?_
  · intro k mn mx n s l ih hn
    rw [wec] at hn
    have hl := woz l
    exact wmfc k mn mx n s l (by omega) (ih (by omega))
  · intro _ r h; cases h
  · intro r l h1 h2 hn x hx
    rw [wnb] at hn
    rcases List.mem_cons.1 hx with rfl | hx
    · exact h1 (by omega)
    · exact h2 (by omega) x hx
def wqu (r : Rx) : Bool := decide (wec r ≤ 40) && ((wuk r 0 0).1 && decide ((wuk r 0 0).2 ≤ 3))
theorem wbqb (r : Rx) (hn : wec r ≤ 1000000) : lim Try.prog cfg (.call 58 [.agg ⟨rxC r⟩, .bool true]) (HP []) = some (.val (.bool (wqu r)), HP []) := by
  have h1 := ev_Nodes r hn
  have h2 := wccb r 0
  have h3 := ev_walk r hn 0 0 (by omega) (by omega) (by omega) (by omega)
  unfold wqu
  generalize wuk r 0 0 = w at h3 ⊢
  obtain ⟨b, g⟩ := w
  refine wib hc wqab (Nat.le_of_ble_eq_true rfl) (Nat.le_of_ble_eq_true rfl) ?_
  unfold wez
  by_cases hq : wec r ≤ 40
  · have hq2 : (wec r : Int) ≤ 40 := by omega
    rw [decide_eq_true hq]
    cases b with
    | false => (repeat' (first | (simp -implicitDefEqProofs (maxSteps := 2000000) (disch := first | with_reducible assumption | omega | (simp only [zS, zA, seval, zD] <;> omega) | fail) only [zS, argl, insA, Go.Den.wm, wo, wu, looks, wz, wy, idOf, riA, seval, Go.Den.wh, kK, wdb, wkb, *, zT]) | (with_reducible (first | apply z1 | apply z2 | apply z3 | apply z4) <;> intro hq <;> (try simp only [zH] at hq) <;> (try (exfalso; omega))))); all_goals trace_state
    | true => (repeat' (first | (simp -implicitDefEqProofs (maxSteps := 2000000) (disch := first | with_reducible assumption | omega | (simp only [zS, zA, seval, zD] <;> omega) | fail) only [zS, argl, insA, Go.Den.wm, wo, wu, looks, wz, wy, idOf, riA, seval, Go.Den.wh, kK, wdb, wkb, *, zT]) | (with_reducible (first | apply z1 | apply z2 | apply z3 | apply z4) <;> intro hq <;> (try simp only [zH] at hq) <;> (try (exfalso; omega))))); all_goals trace_state
  · have hq2 : ¬ (wec r : Int) ≤ 40 := by omega
    rw [decide_eq_false hq]
    (repeat' (first | (simp -implicitDefEqProofs (maxSteps := 2000000) (disch := first | with_reducible assumption | omega | (simp only [zS, zA, seval, zD] <;> omega) | fail) only [zS, argl, insA, Go.Den.wm, wo, wu, looks, wz, wy, idOf, riA, seval, Go.Den.wh, kK, wdb, wkb, *, zT]) | (with_reducible (first | apply z1 | apply z2 | apply z3 | apply z4) <;> intro hq <;> (try simp only [zH] at hq) <;> (try (exfalso; omega)))))
end
end Go.Proofs.Ytdbhfmdndiphcaa
namespace Go.Proofs.Ytdbhfmdndiphcaa
set_option linter.unusedVariables false
set_option linter.unusedSimpArgs false
open Go.Den
noncomputable section
theorem wnfc {k mn mx n : Int} {s : BitVec 256} {l : List Rx} (h : wqv (.mk k mn mx n s l) = true) :
    (k = 5 → l ≠ []) ∧ (k = 4 → l ≠ [] ∧ 0 ≤ mn ∧ mn ≤ 20 ∧ -1 ≤ mx ∧ mx ≤ 20) := by
  constructor
  · intro h5; subst h5
    have h3 : decide ((l.length : Int) = 1) = true := h
    rw [decide_eq_true_eq] at h3
    intro he; subst he; simp at h3
  · intro h4; subst h4
    have h3 : (decide ((l.length : Int) = 1) && (l.any (wjj [1, 5, 6]) && repF (.mk 4 mn mx n s l))) = true := h
    rw [Bool.and_eq_true, Bool.and_eq_true, decide_eq_true_eq] at h3
    have h5 : (decide (0 ≤ mn) && (decide (mn ≤ 20) && (decide (mx = -1) || (decide (max mn 1 ≤ mx) && decide (mx ≤ 20))))) = true := h3.2.2
    simp only [Bool.and_eq_true, Bool.or_eq_true, decide_eq_true_eq] at h5
    refine ⟨fun he => by subst he; simp at h3, h5.1, h5.2.1, ?_, ?_⟩ <;> omega
theorem walk_ok : ∀ (r : Rx) (d g : Int), 0 ≤ g → (wuk r d g).1 = true → (wuk r d g).2 ≤ 3 → okR r = true := by
  refine Rx.rec (motive_1 := fun r => ∀ (d g : Int), 0 ≤ g → (wuk r d g).1 = true → (wuk r d g).2 ≤ 3 → okR r = true) (motive_2 := fun l => ∀ (d g : Int), 0 ≤ g → (wai l d g).1 = true → (wai l d g).2 ≤ 3 → okRs l = true) ?_ ?_ ?_
  · intro k mn mx n s l ih d g hg h1 h2
    have hle : ∀ d g, g ≤ (wai l d g).2 := by
      clear ih h1 h2 hg
      induction l with
      | nil => intro d g; rw [wai]; exact Int.le_refl _
      | cons a l ih =>
        intro d g
        rw [wai]
        have := (wdfb a d g).1
        split
        · have := ih d (wuk a d g).2; omega
        · exact this
    rw [wuk] at h1 h2
    rw [okR, Bool.and_eq_true]
    by_cases hb : wjfc (.mk k mn mx n s l) = true
    · rw [if_pos hb] at h1 h2
      by_cases hk : wqv (.mk k mn mx n s l) = true
      · rw [if_pos hk] at h1 h2
        have ⟨k5, k4⟩ := wnfc hk
        by_cases h5 : k = 5
        · rw [if_pos h5] at h1 h2
          rw [if_pos h5]
          by_cases hn : n = g + 1
          · rw [if_pos hn] at h1 h2
            by_cases hd : d + 1 ≤ 6
            · rw [if_pos hd] at h1 h2
              have := hle (d + 1) (g + 1)
              refine ⟨?_, ih _ _ (by omega) h1 h2⟩
              simp only [Bool.and_eq_true, decide_eq_true_eq]
              exact ⟨k5 h5, by omega, by omega⟩
            · rw [if_neg hd] at h1; cases h1
          · rw [if_neg hn] at h1; cases h1
        · rw [if_neg h5] at h1 h2 ⊢
          by_cases h6 : k = 6
          · rw [if_pos h6] at h1 h2
            rw [if_neg (by omega), if_pos h6]
            simp only [Bool.and_eq_true, decide_eq_true_eq] at h1 ⊢
            have hl0 : l = [] := by
              subst h6
              have h3 : decide ((l.length : Int) = 0) = true := hk
              rw [decide_eq_true_eq] at h3
              exact List.eq_nil_of_length_eq_zero (by omega)
            subst hl0
            exact ⟨⟨h1.1, by simp only at h2; omega⟩, by rw [okRs]⟩
          · rw [if_neg h6] at h1 h2 ⊢
            refine ⟨?_, ih _ _ hg h1 h2⟩
            by_cases h4 : k = 4
            · rw [if_pos h4]
              simp only [Bool.and_eq_true, decide_eq_true_eq]
              exact k4 h4
            · rw [if_neg h4]
      · rw [if_neg hk] at h1; cases h1
    · rw [if_neg hb] at h1; cases h1
  · intro _ _ _ _ _; rw [okRs]
  · intro r l h1 h2 d g hg h3 h4
    rw [wai] at h3 h4
    have hw := wdfb r d g
    by_cases hr : (wuk r d g).1 = true
    · rw [if_pos hr] at h3 h4
      have hle : ∀ (l : List Rx) (d g : Int), g ≤ (wai l d g).2 := by
        intro l
        induction l with
        | nil => intro d g; rw [wai]; exact Int.le_refl _
        | cons a l ih =>
          intro d g
          rw [wai]
          have := (wdfb a d g).1
          split
          · have := ih d (wuk a d g).2; omega
          · exact this
      have := hle l d (wuk r d g).2
      rw [okRs, Bool.and_eq_true]
      exact ⟨h1 d g hg hr (by omega), h2 d _ (by omega) h3 h4⟩
    · rw [if_neg hr] at h3; cases h3
theorem wffb {r : Rx} (h : wqu r = true) : okR r = true := by
  rw [wqu, Bool.and_eq_true, Bool.and_eq_true, decide_eq_true_eq, decide_eq_true_eq] at h
  exact walk_ok r 0 0 (Int.le_refl _) h.2.1 h.2.2
theorem ev_ways (s : List UInt8) (bol : Bool) (hs : s.length ≤ 12) : ∀ r : Rx, wec r ≤ 1000000 → okR r = true → wffc s bol r := by
  refine Rx.rec (motive_1 := fun r => wec r ≤ 1000000 → okR r = true → wffc s bol r) (motive_2 := fun l => wnb l ≤ 1000000 → okRs l = true → wyib s bol l) ?_ ?_ ?_
  · intro k mn mx n set l ih hn hok
    rw [wec] at hn
    have hl := woz l
    refine wgfc s bol hs k mn mx n set l (by omega) hok (ih (by omega) ?_)
    rw [okR, Bool.and_eq_true] at hok
    exact hok.2
  · intro _ _ r h; cases h
  · intro r l h1 h2 hn hok x hx
    rw [wnb] at hn
    rw [okRs, Bool.and_eq_true] at hok
    rcases List.mem_cons.1 hx with rfl | hx
    · intro y hy
      exact ⟨wmu (s := s) rfl (bol := bol) _ hok.1 y hy, h1 (by omega) hok.1 y hy⟩
    · exact h2 (by omega) hok.2 x hx
theorem wofc {len : Nat} {a : Int} (h1 : 0 ≤ a) (h2 : a ≤ len) : GdS len (a, wap) := by
  refine ⟨h1, h2, rfl, rfl, fun g g1 g3 => .inl ?_⟩
  rcases (show g = 1 ∨ g = 2 ∨ g = 3 by omega) with rfl | rfl | rfl <;> exact ⟨rfl, rfl⟩
def wkn (r : Rx) (s : List UInt8) (bol : Bool) (a : Int) : List St := if wqu r = true ∧ 0 ≤ a ∧ a ≤ s.length then wjg s bol r (a, wap) else []
theorem wecb {r : Rx} {s : List UInt8} {bol : Bool} {a : Int} : RwS s.length a (wkn r s bol a) := by
  unfold wkn
  split
  · rename_i h
    exact wmu (s := s) rfl (bol := bol) r (wffb h.1) (a, wap) (wofc h.2.1 h.2.2)
  · exact .nil
theorem ev_Ways (r : Rx) (hn : wec r ≤ 1000000) (s : List UInt8) (hs : s.length ≤ 12) (bol : Bool) (a : Int) : lim Try.prog cfg (.call 40 [.agg ⟨rxC r⟩, str s, .bool bol, .int .i64 a]) (HP []) = some (.val (FL (wkn r s bol a).length (stsC (wkn r s bol a))), HP []) := by
  have h := wbqb r hn
  refine wib hc wpab (Nat.le_of_ble_eq_true rfl) (Nat.le_of_ble_eq_true rfl) ?_
  unfold wdz wkn
  have h0 := wpec
  cases hr : wqu r with
  | false =>
    rw [if_neg (by simp)]
    rw [hr] at h
    clear hr h0
    (repeat' (first | (simp -implicitDefEqProofs (maxSteps := 2000000) (disch := first | with_reducible assumption | omega | (simp only [zS, zA, seval, zD] <;> omega) | fail) only [zS, argl, insA, Go.Den.wm, wo, wu, looks, wz, wy, idOf, riA, seval, Go.Den.wh, kK, wdb, wkb, *, zT]) | (with_reducible (first | apply z1 | apply z2 | apply z3 | apply z4) <;> intro hq <;> (try simp only [zH] at hq) <;> (try (exfalso; omega))) | (with_reducible apply z5; (case hl => (repeat (first | exact .nil | with_reducible apply z6 | with_reducible apply z7))); (case h => kernel_rfl))))
  | true =>
    rw [hr] at h
    by_cases h1 : 0 ≤ a
    · by_cases h2 : a ≤ s.length
      · rw [if_pos ⟨rfl, h1, h2⟩]
        have hw := ev_ways s bol hs r hn (wffb hr) (a, wap) (wofc h1 h2)
        rw [← st_fold] at hw
        clear hr
        (repeat' (first | (simp -implicitDefEqProofs (maxSteps := 2000000) (disch := first | with_reducible assumption | omega | (simp only [zS, zA, seval, zD] <;> omega) | fail) only [zS, argl, insA, Go.Den.wm, wo, wu, looks, wz, wy, idOf, riA, seval, Go.Den.wh, kK, wdb, wkb, *, zT]) | (with_reducible (first | apply z1 | apply z2 | apply z3 | apply z4) <;> intro hq <;> (try simp only [zH] at hq) <;> (try (exfalso; omega))) | (with_reducible apply z5; (case hl => (repeat (first | exact .nil | with_reducible apply z6 | with_reducible apply z7))); (case h => kernel_rfl))))
      · rw [if_neg (fun h => h2 h.2.2)]
        clear hr h0
        (repeat' (first | (simp -implicitDefEqProofs (maxSteps := 2000000) (disch := first | with_reducible assumption | omega | (simp only [zS, zA, seval, zD] <;> omega) | fail) only [zS, argl, insA, Go.Den.wm, wo, wu, looks, wz, wy, idOf, riA, seval, Go.Den.wh, kK, wdb, wkb, *, zT]) | (with_reducible (first | apply z1 | apply z2 | apply z3 | apply z4) <;> intro hq <;> (try simp only [zH] at hq) <;> (try (exfalso; omega))) | (with_reducible apply z5; (case hl => (repeat (first | exact .nil | with_reducible apply z6 | with_reducible apply z7))); (case h => kernel_rfl))))
    · rw [if_neg (fun h => h1 h.2.1)]
      clear hr h0
      (repeat' (first | (simp -implicitDefEqProofs (maxSteps := 2000000) (disch := first | with_reducible assumption | omega | (simp only [zS, zA, seval, zD] <;> omega) | fail) only [zS, argl, insA, Go.Den.wm, wo, wu, looks, wz, wy, idOf, riA, seval, Go.Den.wh, kK, wdb, wkb, *, zT]) | (with_reducible (first | apply z1 | apply z2 | apply z3 | apply z4) <;> intro hq <;> (try simp only [zH] at hq) <;> (try (exfalso; omega))) | (with_reducible apply z5; (case hl => (repeat (first | exact .nil | with_reducible apply z6 | with_reducible apply z7))); (case h => kernel_rfl))))
end
end Go.Proofs.Ytdbhfmdndiphcaa
namespace Go.Proofs.Ytdbhfmdndiphcaa
set_option linter.unusedVariables false
set_option linter.unusedSimpArgs false
open Go.Den
noncomputable section
def wks : List St → Option St → Option St
  | [], b => b
  | x :: l, none => wks l (some x)
  | x :: l, some b => wks l (if x.1 > b.1 then some x else some b)
def bst (b : Option St) : St := b.getD St.zero
abbrev fiB (r : Rx) (b : Option St) : List ABlk := [X (rxC r) 47 0 true, X (mtC Mt.zero) 55 0 true, X (stC (bst b)) 113 0 true]
theorem first_in (r : Rx) (s : List UInt8) (a : Int) (l : List St) (hl : l.length ≤ 16000000) : ∀ (k i : Nat) (b : Option St), i + k = l.length →
    lim Try.prog cfg (.loop 28 0 (wmf 1) (SE (EJ 70 G0) [(45, .int .i64 i), (44, .int .i64 l.length), (43, FL l.length (stsC l)), (10, .bool b.isSome), (9, .pointer (some ⟨2, 0, none⟩)), (8, .int .i64 a), (6, .pointer (some ⟨1, 0, none⟩)), (3, .pointer (some ⟨0, 0, none⟩)), (1, str s)])) (HP (fiB r b)) = some (.code (.exit 2) (SE (EJ 70 G0) [(10, .bool (wks (l.drop i) b).isSome), (9, .pointer (some ⟨2, 0, none⟩)), (8, .int .i64 a), (6, .pointer (some ⟨1, 0, none⟩)), (3, .pointer (some ⟨0, 0, none⟩)), (1, str s)]), HP (fiB r (wks (l.drop i) b))) := by
  intro k
  induction k with
  | zero =>
    intro i b hi
    rw [List.drop_of_length_le (by omega), wks]
    refine wcb wdh ?_
    unfold wlh
    (repeat' (first | (simp -implicitDefEqProofs (maxSteps := 2000000) (disch := first | with_reducible assumption | omega | (simp only [zS, zA, seval, wmw, wxe, zD] <;> omega) | fail) only [zS, argl, insA, Go.Den.wm, wo, wu, looks, wz, wy, idOf, riA, seval, Go.Den.wh, kK, wcf, *, zT]) | (with_reducible (first | apply z1 | apply z2 | apply z3 | apply z4) <;> intro hq <;> (try simp only [zH] at hq) <;> (try (exfalso; omega)))))
  | succ k ih =>
    intro i b hi
    rw [wph l (by omega)]
    cases b with
    | none =>
      have h := ih (i + 1) (some (l.getD i St.zero)) (by omega)
      rw [wks]
      clear ih
      refine wcb wdh ?_
      unfold wlh
      (repeat' (first | (simp -implicitDefEqProofs (maxSteps := 2000000) (disch := first | with_reducible assumption | omega | (simp only [zS, zA, seval, wmw, wxe, zD] <;> omega) | fail) only [zS, argl, insA, Go.Den.wm, wo, wu, looks, wz, wy, idOf, riA, seval, Go.Den.wh, kK, wcf, wdb, wkb, Option.isSome_none, *, zT]) | (with_reducible (first | apply z1 | apply z2 | apply z3 | apply z4) <;> intro hq <;> (try simp only [zH] at hq) <;> (try (exfalso; omega)))))
      exact h
    | some b =>
      rw [wks]
      by_cases hq : (l.getD i St.zero).1 > b.1
      · rw [if_pos hq]
        have h := ih (i + 1) (some (l.getD i St.zero)) (by omega)
        clear ih
        refine wcb wdh ?_
        unfold wlh
        (repeat' (first | (simp -implicitDefEqProofs (maxSteps := 2000000) (disch := first | with_reducible assumption | omega | (simp only [zS, zA, seval, wmw, wxe, zD] <;> omega) | fail) only [zS, argl, insA, Go.Den.wm, wo, wu, looks, wz, wy, idOf, riA, seval, Go.Den.wh, kK, wcf, wdb, wkb, bst, Option.getD_some, *, zT]) | (with_reducible (first | apply z1 | apply z2 | apply z3 | apply z4) <;> intro hq <;> (try simp only [zH] at hq) <;> (try (exfalso; omega)))))
        exact h
      · rw [if_neg hq]
        have h := ih (i + 1) (some b) (by omega)
        clear ih
        refine wcb wdh ?_
        unfold wlh
        (repeat' (first | (simp -implicitDefEqProofs (maxSteps := 2000000) (disch := first | with_reducible assumption | omega | (simp only [zS, zA, seval, wmw, wxe, zD] <;> omega) | fail) only [zS, argl, insA, Go.Den.wm, wo, wu, looks, wz, wy, idOf, riA, seval, Go.Den.wh, kK, wcf, wdb, wkb, bst, Option.getD_some, *, zT]) | (with_reducible (first | apply z1 | apply z2 | apply z3 | apply z4) <;> intro hq <;> (try simp only [zH] at hq) <;> (try (exfalso; omega)))))
        exact h
end
end Go.Proofs.Ytdbhfmdndiphcaa
namespace Go.Proofs.Ytdbhfmdndiphcaa
set_option linter.unusedVariables false
set_option linter.unusedSimpArgs false
open Go.Den
noncomputable section
def wrr (r : Rx) (s : List UInt8) : Nat → Int → Option Mt
  | 0, _ => none
  | k + 1, a => match wks (wkn r s true a) none with
    | some b => some ((b.2.put 0 a).put 1 b.1)
    | none => wrr r s k (a + 1)
def firO : Option Mt → Option (Out × AH)
  | none => some (.code (.exit 0) (SE (EJ 70 G0) [(7, JK), (6, .pointer (some ⟨0, 0, none⟩))]), HP [X (mtC Mt.zero) 55 0 true])
  | some m => some (.code .ret (SE (EJ 70 G0) [(7, .bool true), (6, .pointer (some ⟨0, 0, none⟩))]), HP [X (mtC m) 55 0 true])
theorem st_set12 {b : St} {x y : Int} : ((stC b).set 1 (.int .i64 x)).set 2 (.int .i64 y) = stC (b.1, (b.2.put 0 x).put 1 y) := by
  show (Value.int .i64 b.1 :: ((mtC b.2).set 0 _).set 1 _) = _
  rw [wtdc, wtdc]; rfl
theorem ej70 : (EJ 70 G0).get 7 = JK := rfl
set_option maxHeartbeats 4000000 in
theorem wpfc (r : Rx) (hn : wec r ≤ 1000000) (s : List UInt8) (hs : s.length ≤ 12) : ∀ (k : Nat) (a : Int), 0 ≤ a → a + k = s.length + 1 →
    lim Try.prog cfg (.loop 28 0 (wmf 0) (SE (EJ 70 G0) [(8, .int .i64 a), (6, .pointer (some ⟨1, 0, none⟩)), (3, .pointer (some ⟨0, 0, none⟩)), (1, str s)])) (HP [X (rxC r) 47 0 true, X (mtC Mt.zero) 55 0 true]) = firO (wrr r s k a) := by
  intro k
  induction k with
  | zero =>
    intro a h0 hi
    rw [wrr, firO]
    refine wcb weh ?_
    unfold wmh
    (repeat' (first | (simp -implicitDefEqProofs (maxSteps := 2000000) (disch := first | with_reducible assumption | omega | (simp only [zS, zA, seval, web, wmb, wmw, wxe, zD] <;> omega) | fail) only [zS, argl, insA, Go.Den.wm, wo, wu, looks, wz, wy, idOf, riA, seval, Go.Den.wh, kK, wqd, web, wmb, ej70, *, zT]) | (with_reducible (first | apply z1 | apply z2 | apply z3 | apply z4) <;> intro hq <;> (try simp only [zH] at hq) <;> (try (exfalso; omega)))))
  | succ k ih =>
    intro a h0 hi
    have h := ih (a + 1) (by omega) (by omega)
    have hw := ev_Ways r hn s hs true a
    have hl := row_len (wecb (r := r) (s := s) (bol := true) (a := a)) hs
    have h2 := first_in r s a (wkn r s true a) (by omega) _ 0 none (by rw [Nat.zero_add])
    unfold fiB at h2
    rw [List.drop_zero, show ((0 : Nat) : Int) = 0 from rfl, show bst none = St.zero from rfl, show (none : Option St).isSome = false from rfl] at h2
    rw [wrr]
    clear ih
    generalize wkn r s true a = l at hw hl h2 ⊢
    generalize wks l none = b at h2 ⊢
    have hz : stC St.zero = [.int .i64 0, .int .i64 0, .int .i64 0, .int .i64 0, .int .i64 0, .int .i64 0, .int .i64 0, .int .i64 0, .int .i64 0] := rfl
    rw [hz] at h2
    cases b with
    | none =>
      rw [show bst none = St.zero from rfl, show (none : Option St).isSome = false from rfl, hz] at h2
      clear hz
      generalize wrr r s k (a + 1) = o at h ⊢
      cases o with
      | none =>
        rw [firO] at h ⊢
        refine wcb weh ?_
        unfold wmh
        (repeat' (first | (simp -implicitDefEqProofs (maxSteps := 2000000) (disch := first | with_reducible assumption | omega | (simp only [zS, zA, seval, web, wmb, wmw, wxe, zD] <;> omega) | fail) only [zS, argl, insA, Go.Den.wm, wo, wu, looks, wz, wy, idOf, riA, seval, Go.Den.wh, kK, wqd, wcf, web, wmb, ej70, *, zT]) | (with_reducible (first | apply z1 | apply z2 | apply z3 | apply z4) <;> intro hq <;> (try simp only [zH] at hq) <;> (try (exfalso; omega)))))
      | some m =>
        rw [firO] at h ⊢
        refine wcb weh ?_
        unfold wmh
        (repeat' (first | (simp -implicitDefEqProofs (maxSteps := 2000000) (disch := first | with_reducible assumption | omega | (simp only [zS, zA, seval, web, wmb, wmw, wxe, zD] <;> omega) | fail) only [zS, argl, insA, Go.Den.wm, wo, wu, looks, wz, wy, idOf, riA, seval, Go.Den.wh, kK, wqd, wcf, web, wmb, ej70, *, zT]) | (with_reducible (first | apply z1 | apply z2 | apply z3 | apply z4) <;> intro hq <;> (try simp only [zH] at hq) <;> (try (exfalso; omega)))))
    | some b =>
      rw [show bst (some b) = b from rfl, show (some b).isSome = true from rfl] at h2
      rw [firO]
      clear hz h
      refine wcb weh ?_
      unfold wmh
      (repeat' (first | (simp -implicitDefEqProofs (maxSteps := 2000000) (disch := first | with_reducible assumption | omega | (simp only [zS, zA, seval, web, wmb, wmw, wxe, zD] <;> omega) | fail) only [zS, argl, insA, Go.Den.wm, wo, wu, looks, wz, wy, idOf, riA, seval, Go.Den.wh, kK, wqd, wcf, st_set12, web, wmb, ej70, *, zT]) | (with_reducible (first | apply z1 | apply z2 | apply z3 | apply z4) <;> intro hq <;> (try simp only [zH] at hq) <;> (try (exfalso; omega)))))
def wyj (r : Rx) (s : List UInt8) (a : Int) : Option Mt := if wqu r = true ∧ 0 ≤ a ∧ a ≤ s.length then wrr r s (s.length + 1 - a).toNat a else none
theorem wcqb (r : Rx) (hn : wec r ≤ 1000000) (s : List UInt8) (hs : s.length ≤ 12) (a : Int) : lim Try.prog cfg (.call 28 [.agg ⟨rxC r⟩, str s, .int .i64 a]) (HP []) = some (.val (.tuple ⟨[.agg ⟨mtC ((wyj r s a).getD wap)⟩, .bool (wyj r s a).isSome]⟩), HP []) := by
  have hr := wbqb r hn
  have h0 := wpec
  refine wib hc wkw (Nat.le_of_ble_eq_true rfl) (Nat.le_of_ble_eq_true rfl) ?_
  unfold wau wyj
  cases hrv : wqu r with
  | false =>
    rw [if_neg (by simp), Option.getD_none, Option.isSome_none]
    rw [hrv] at hr
    clear hrv
    (repeat' (first | (simp -implicitDefEqProofs (maxSteps := 2000000) (disch := first | with_reducible assumption | omega | (simp only [zS, zA, seval, wxe, zD] <;> omega) | fail) only [zS, argl, insA, Go.Den.wm, wo, wu, looks, wz, wy, idOf, riA, seval, Go.Den.wh, kK, wqd, wdb, wkb, *, zT]) | (with_reducible (first | apply z1 | apply z2 | apply z3 | apply z4) <;> intro hq <;> (try simp only [zH] at hq) <;> (try (exfalso; omega)))))
  | true =>
    rw [hrv] at hr
    clear hrv
    by_cases h1 : 0 ≤ a
    · by_cases h2 : a ≤ s.length
      · rw [if_pos ⟨rfl, h1, h2⟩]
        have h := wpfc r hn s hs (s.length + 1 - a).toNat a h1 (by omega)
        generalize wrr r s (s.length + 1 - a).toNat a = o at h ⊢
        cases o with
        | none =>
          rw [firO] at h
          rw [Option.getD_none, Option.isSome_none]
          rw [show mtC Mt.zero = [.int .i64 0, .int .i64 0, .int .i64 0, .int .i64 0, .int .i64 0, .int .i64 0, .int .i64 0, .int .i64 0] from rfl] at h
          (repeat' (first | (simp -implicitDefEqProofs (maxSteps := 2000000) (disch := first | with_reducible assumption | omega | (simp only [zS, zA, seval, web, wmb, wxe, zD] <;> omega) | fail) only [zS, argl, insA, Go.Den.wm, wo, wu, looks, wz, wy, idOf, riA, seval, Go.Den.wh, kK, wqd, wdb, wkb, web, wmb, ej70, *, zT]) | (with_reducible (first | apply z1 | apply z2 | apply z3 | apply z4) <;> intro hq <;> (try simp only [zH] at hq) <;> (try (exfalso; omega)))))
        | some m =>
          rw [firO] at h
          rw [Option.getD_some, Option.isSome_some]
          rw [show mtC Mt.zero = [.int .i64 0, .int .i64 0, .int .i64 0, .int .i64 0, .int .i64 0, .int .i64 0, .int .i64 0, .int .i64 0] from rfl] at h
          clear h0
          (repeat' (first | (simp -implicitDefEqProofs (maxSteps := 2000000) (disch := first | with_reducible assumption | omega | (simp only [zS, zA, seval, web, wmb, wxe, zD] <;> omega) | fail) only [zS, argl, insA, Go.Den.wm, wo, wu, looks, wz, wy, idOf, riA, seval, Go.Den.wh, kK, wqd, wdb, wkb, web, wmb, ej70, *, zT]) | (with_reducible (first | apply z1 | apply z2 | apply z3 | apply z4) <;> intro hq <;> (try simp only [zH] at hq) <;> (try (exfalso; omega)))))
      · rw [if_neg (fun h => h2 h.2.2), Option.getD_none, Option.isSome_none]
        (repeat' (first | (simp -implicitDefEqProofs (maxSteps := 2000000) (disch := first | with_reducible assumption | omega | (simp only [zS, zA, seval, wxe, zD] <;> omega) | fail) only [zS, argl, insA, Go.Den.wm, wo, wu, looks, wz, wy, idOf, riA, seval, Go.Den.wh, kK, wqd, wdb, wkb, *, zT]) | (with_reducible (first | apply z1 | apply z2 | apply z3 | apply z4) <;> intro hq <;> (try simp only [zH] at hq) <;> (try (exfalso; omega)))))
    · rw [if_neg (fun h => h1 h.2.1), Option.getD_none, Option.isSome_none]
      (repeat' (first | (simp -implicitDefEqProofs (maxSteps := 2000000) (disch := first | with_reducible assumption | omega | (simp only [zS, zA, seval, wxe, zD] <;> omega) | fail) only [zS, argl, insA, Go.Den.wm, wo, wu, looks, wz, wy, idOf, riA, seval, Go.Den.wh, kK, wqd, wdb, wkb, *, zT]) | (with_reducible (first | apply z1 | apply z2 | apply z3 | apply z4) <;> intro hq <;> (try simp only [zH] at hq) <;> (try (exfalso; omega)))))
end
end Go.Proofs.Ytdbhfmdndiphcaa
namespace Go.Proofs.Ytdbhfmdndiphcaa
set_option linter.unusedVariables false
set_option linter.unusedSimpArgs false
open Go.Den
noncomputable section
theorem wdqb : ∀ (l : List St) (b : Option St) (x : St), wks l b = some x → x ∈ l ∨ b = some x := by
  intro l
  induction l with
  | nil => intro b x h; exact .inr h
  | cons y l ih =>
    intro b x h
    cases b with
    | none =>
      rw [wks] at h
      rcases ih _ _ h with h | h
      · exact .inl (List.mem_cons_of_mem _ h)
      · cases h; exact .inl (List.mem_cons_self ..)
    | some b =>
      rw [wks] at h
      rcases ih _ _ h with h | h
      · exact .inl (List.mem_cons_of_mem _ h)
      · split at h
        · cases h; exact .inl (List.mem_cons_self ..)
        · exact .inr h
theorem wpz {r : Rx} {s : List UInt8} {m : Mt} : ∀ (k : Nat) (a : Int), wrr r s k a = some m → ∃ b : St, ∃ a2 : Int, a ≤ a2 ∧ a2 < a + k ∧ wks (wkn r s true a2) none = some b ∧ m = (b.2.put 0 a2).put 1 b.1 := by
  intro k
  induction k with
  | zero => intro a h; cases h
  | succ k ih =>
    intro a h
    rw [wrr] at h
    cases hb : wks (wkn r s true a) none with
    | some b =>
      rw [hb] at h
      cases h
      exact ⟨b, a, Int.le_refl _, by omega, hb, rfl⟩
    | none =>
      rw [hb] at h
      obtain ⟨b, a2, h1, h2, h3, h4⟩ := ih (a + 1) h
      exact ⟨b, a2, by omega, by omega, h3, h4⟩
theorem mt_at0 {m : Mt} {x y : Int} : ((m.put 0 x).put 1 y).at 0 = x := by rw [Mt.at_put, if_neg (by omega), Mt.at_put, if_pos ⟨rfl, by omega⟩]
theorem mt_at1 {m : Mt} {x y : Int} : ((m.put 0 x).put 1 y).at 1 = y := by rw [Mt.at_put, if_pos ⟨rfl, by omega⟩]
theorem wgq {r : Rx} {s : List UInt8} {a : Int} {m : Mt} (h : wyj r s a = some m) : 0 ≤ a ∧ a ≤ m.at 0 ∧ m.at 0 ≤ m.at 1 ∧ m.at 1 ≤ s.length := by
  unfold wyj at h
  split at h
  · rename_i hq
    obtain ⟨b, a2, h1, h2, h3, h4⟩ := wpz _ _ h
    subst h4
    rw [mt_at0, mt_at1]
    rcases wdqb _ _ _ h3 with hb | hb
    · have := (wecb (r := r) (s := s) (bol := true) (a := a2)).good b hb
      exact ⟨hq.2.1, h1, this.2, this.1.hi⟩
    · cases hb
  · cases h
def alF (r : Rx) (s : List UInt8) : Nat → Int → Int → List Mt → Bool × List Mt
  | 0, _, _, out => (true, out)
  | k + 1, a, last, out => if a ≤ s.length then (match wyj r s a with
    | none => (false, out)
    | some m => if m.at 0 = m.at 1 then (if m.at 1 = last then alF r s k (m.at 1 + 1) last out else alF r s k (m.at 1 + 1) (m.at 1) (out ++ [m])) else alF r s k (m.at 1) (m.at 1) (out ++ [m])) else (true, out)
def alV (l : List Mt) : Value := if l = [] then .slice none 0 0 else FO 0 l.length (mtsC l)
def alH (l : List Mt) : List ABlk := if l = [] then [] else [.tok l.length 55 8]
def alO (p : Bool × List Mt) : Option (Out × AH) := if p.1 = true then some (.code (.exit 0) (SE (EJ 47 G0) [(5, alV p.2), (4, JK)]), HP (alH p.2)) else some (.code .ret (SE (EJ 47 G0) [(5, alV p.2), (4, alV p.2)]), HP (alH p.2))
theorem ej47 : (EJ 47 G0).get 4 = JK := rfl
theorem wbjb {r : Rx} {s : List UInt8} : ∀ (k : Nat) (a last : Int) (out : List Mt), out ≠ [] → (alF r s k a last out).2 ≠ [] := by
  intro k
  induction k with
  | zero => intro a l out h; exact h
  | succ k ih =>
    intro a l out h
    rw [alF]
    split
    · split
      · exact h
      · split
        · split
          · exact ih _ _ _ h
          · exact ih _ _ _ (by simp)
        · exact ih _ _ _ (by simp)
    · exact h
theorem wsr {p : Bool × List Mt} (h : p.2 ≠ []) : alO p = some (.code (if p.1 = true then .exit 0 else .ret) (SE (EJ 47 G0) [(5, FO 0 p.2.length (mtsC p.2)), (4, if p.1 = true then JK else FO 0 p.2.length (mtsC p.2))]), HP [.tok p.2.length 55 8]) := by
  unfold alO alV alH
  rw [if_neg h, if_neg h]
  split <;> rfl
theorem weqb {l : List Mt} {m : Mt} : mtsC (l ++ [m]) = mtsC l ++ mtC m := by rw [wbnb, mts_app]
set_option maxHeartbeats 4000000 in
theorem wcjb (r : Rx) (hn : wec r ≤ 1000000) (s : List UInt8) (hs : s.length ≤ 12) : ∀ (k : Nat) (a last : Int) (out : List Mt), 0 ≤ a → a ≤ s.length + 1 → s.length + 1 ≤ a + k → out ≠ [] → (out.length : Int) ≤ a →
    lim Try.prog cfg (.loop 27 0 (wwl 0) (SE (EJ 47 G0) [(7, .int .i64 a), (6, .int .i64 last), (5, FO 1 out.length (mtsC out)), (2, .pointer (some ⟨0, 0, none⟩)), (1, str s)])) (HP [X (rxC r) 47 0 true, .tok out.length 55 8]) = alO (alF r s k a last out) := by
  intro k
  induction k with
  | zero =>
    intro a last out h0 h1 h2 ho hl
    rw [alF, wsr ho, if_pos rfl, if_pos rfl]
    refine wcb wob ?_
    unfold wzb
    (repeat' (first | (simp -implicitDefEqProofs (maxSteps := 2000000) (disch := first | with_reducible assumption | omega | (simp only [zS, zA, seval, web, wmb, zD] <;> omega) | fail) only [zS, argl, insA, Go.Den.wm, wo, wu, looks, wz, wy, idOf, riA, seval, Go.Den.wh, kK, wrb, web, wmb, ej47, *, zT]) | (with_reducible (first | apply z1 | apply z2 | apply z3 | apply z4) <;> intro hq <;> (try simp only [zH] at hq) <;> (try (exfalso; omega)))))
  | succ k ih =>
    intro a last out h0 h1 h2 ho hl
    rw [alF]
    by_cases ha : a ≤ s.length
    · rw [if_pos ha]
      have hf := wcqb r hn s hs a
      cases hm : wyj r s a with
      | none =>
        rw [hm, Option.getD_none, Option.isSome_none] at hf
        show _ = alO (false, out)
        rw [wsr ho, if_neg (by simp), if_neg (by simp)]
        clear ih hm
        refine wcb wob ?_
        unfold wzb
        (repeat' (first | (simp -implicitDefEqProofs (maxSteps := 2000000) (disch := first | with_reducible assumption | omega | (simp only [zS, zA, seval, web, wmb, zD] <;> omega) | fail) only [zS, argl, insA, Go.Den.wm, wo, wu, looks, wz, wy, idOf, riA, seval, Go.Den.wh, kK, wrb, web, wmb, ej47, *, zT]) | (with_reducible (first | apply z1 | apply z2 | apply z3 | apply z4) <;> intro hq <;> (try simp only [zH] at hq) <;> (try (exfalso; omega)))))
      | some m =>
        rw [hm, Option.getD_some, Option.isSome_some] at hf
        have hr := wgq hm
        clear hm
        show _ = alO (if m.at 0 = m.at 1 then (if m.at 1 = last then alF r s k (m.at 1 + 1) last out else alF r s k (m.at 1 + 1) (m.at 1) (out ++ [m])) else alF r s k (m.at 1) (m.at 1) (out ++ [m]))
        by_cases hq : m.at 0 = m.at 1
        · rw [if_pos hq]
          by_cases hl2 : m.at 1 = last
          · rw [if_pos hl2]
            have h := ih (m.at 1 + 1) last out (by omega) (by omega) (by omega) ho (by omega)
            have hne := wbjb (r := r) (s := s) k (m.at 1 + 1) last out ho
            generalize alF r s k (m.at 1 + 1) last out = p at h hne ⊢
            obtain ⟨b, l⟩ := p
            rw [wsr hne] at h ⊢
            rw [hl2] at h
            clear ih
            cases b with
            | true =>
              rw [if_pos rfl, if_pos rfl] at h ⊢
              refine wcb wob ?_
              unfold wzb
              (repeat' (first | (simp -implicitDefEqProofs (maxSteps := 2000000) (disch := first | with_reducible assumption | omega | (simp only [zS, zA, seval, web, wmb, wse, wxe, zD] <;> omega) | fail) only [zS, argl, insA, Go.Den.wm, wo, wu, looks, wz, wy, idOf, riA, seval, Go.Den.wh, kK, wrb, web, wmb, ej47, *, zT]) | (with_reducible (first | apply z1 | apply z2 | apply z3 | apply z4) <;> intro hq <;> (try simp only [zH] at hq) <;> (try (exfalso; omega)))))
            | false =>
              rw [if_neg (by simp), if_neg (by simp)] at h ⊢
              refine wcb wob ?_
              unfold wzb
              (repeat' (first | (simp -implicitDefEqProofs (maxSteps := 2000000) (disch := first | with_reducible assumption | omega | (simp only [zS, zA, seval, web, wmb, wse, wxe, zD] <;> omega) | fail) only [zS, argl, insA, Go.Den.wm, wo, wu, looks, wz, wy, idOf, riA, seval, Go.Den.wh, kK, wrb, web, wmb, ej47, *, zT]) | (with_reducible (first | apply z1 | apply z2 | apply z3 | apply z4) <;> intro hq <;> (try simp only [zH] at hq) <;> (try (exfalso; omega)))))
          · rw [if_neg hl2]
            have h := ih (m.at 1 + 1) (m.at 1) (out ++ [m]) (by omega) (by omega) (by omega) (by simp) (by simp; omega)
            have hne := wbjb (r := r) (s := s) k (m.at 1 + 1) (m.at 1) (out ++ [m]) (by simp)
            generalize alF r s k (m.at 1 + 1) (m.at 1) (out ++ [m]) = p at h hne ⊢
            obtain ⟨b, l⟩ := p
            rw [wsr hne] at h ⊢
            clear ih
            rw [show (out ++ [m]).length = out.length + 1 by simp, weqb] at h
            cases b with
            | true =>
              rw [if_pos rfl, if_pos rfl] at h ⊢
              refine wcb wob ?_
              unfold wzb
              (repeat' (first | (simp -implicitDefEqProofs (maxSteps := 2000000) (disch := first | with_reducible assumption | omega | (simp only [zS, zA, seval, web, wmb, wse, wxe, zD] <;> omega) | fail) only [zS, argl, insA, Go.Den.wm, wo, wu, looks, wz, wy, idOf, riA, seval, Go.Den.wh, kK, wrb, web, wmb, ej47, *, zT]) | (with_reducible (first | apply z1 | apply z2 | apply z3 | apply z4) <;> intro hq <;> (try simp only [zH] at hq) <;> (try (exfalso; omega)))))
            | false =>
              rw [if_neg (by simp), if_neg (by simp)] at h ⊢
              refine wcb wob ?_
              unfold wzb
              (repeat' (first | (simp -implicitDefEqProofs (maxSteps := 2000000) (disch := first | with_reducible assumption | omega | (simp only [zS, zA, seval, web, wmb, wse, wxe, zD] <;> omega) | fail) only [zS, argl, insA, Go.Den.wm, wo, wu, looks, wz, wy, idOf, riA, seval, Go.Den.wh, kK, wrb, web, wmb, ej47, *, zT]) | (with_reducible (first | apply z1 | apply z2 | apply z3 | apply z4) <;> intro hq <;> (try simp only [zH] at hq) <;> (try (exfalso; omega)))))
        · rw [if_neg hq]
          have h := ih (m.at 1) (m.at 1) (out ++ [m]) (by omega) (by omega) (by omega) (by simp) (by simp; omega)
          have hne := wbjb (r := r) (s := s) k (m.at 1) (m.at 1) (out ++ [m]) (by simp)
          generalize alF r s k (m.at 1) (m.at 1) (out ++ [m]) = p at h hne ⊢
          obtain ⟨b, l⟩ := p
          rw [wsr hne] at h ⊢
          clear ih
          rw [show (out ++ [m]).length = out.length + 1 by simp, weqb] at h
          cases b with
          | true =>
            rw [if_pos rfl, if_pos rfl] at h ⊢
            refine wcb wob ?_
            unfold wzb
            (repeat' (first | (simp -implicitDefEqProofs (maxSteps := 2000000) (disch := first | with_reducible assumption | omega | (simp only [zS, zA, seval, web, wmb, wse, wxe, zD] <;> omega) | fail) only [zS, argl, insA, Go.Den.wm, wo, wu, looks, wz, wy, idOf, riA, seval, Go.Den.wh, kK, wrb, web, wmb, ej47, *, zT]) | (with_reducible (first | apply z1 | apply z2 | apply z3 | apply z4) <;> intro hq <;> (try simp only [zH] at hq) <;> (try (exfalso; omega)))))
          | false =>
            rw [if_neg (by simp), if_neg (by simp)] at h ⊢
            refine wcb wob ?_
            unfold wzb
            (repeat' (first | (simp -implicitDefEqProofs (maxSteps := 2000000) (disch := first | with_reducible assumption | omega | (simp only [zS, zA, seval, web, wmb, wse, wxe, zD] <;> omega) | fail) only [zS, argl, insA, Go.Den.wm, wo, wu, looks, wz, wy, idOf, riA, seval, Go.Den.wh, kK, wrb, web, wmb, ej47, *, zT]) | (with_reducible (first | apply z1 | apply z2 | apply z3 | apply z4) <;> intro hq <;> (try simp only [zH] at hq) <;> (try (exfalso; omega)))))
    · rw [if_neg ha]
      show _ = alO (true, out)
      rw [wsr ho, if_pos rfl, if_pos rfl]
      clear ih
      refine wcb wob ?_
      unfold wzb
      (repeat' (first | (simp -implicitDefEqProofs (maxSteps := 2000000) (disch := first | with_reducible assumption | omega | (simp only [zS, zA, seval, web, wmb, zD] <;> omega) | fail) only [zS, argl, insA, Go.Den.wm, wo, wu, looks, wz, wy, idOf, riA, seval, Go.Den.wh, kK, wrb, web, wmb, ej47, *, zT]) | (with_reducible (first | apply z1 | apply z2 | apply z3 | apply z4) <;> intro hq <;> (try simp only [zH] at hq) <;> (try (exfalso; omega)))))
theorem wqz {b : Bool} : alO (b, []) = some (.code (if b = true then .exit 0 else .ret) (SE (EJ 47 G0) [(5, .slice none 0 0), (4, if b = true then JK else .slice none 0 0)]), HP []) := by
  unfold alO alV alH
  rw [if_pos rfl, if_pos rfl]
  cases b <;> rfl
set_option maxHeartbeats 4000000 in
theorem wqfc (r : Rx) (hn : wec r ≤ 1000000) (s : List UInt8) (hs : s.length ≤ 12) : ∀ (k : Nat) (a last : Int), 0 ≤ a → a ≤ s.length + 1 → s.length + 1 ≤ a + k →
    lim Try.prog cfg (.loop 27 0 (wwl 0) (SE (EJ 47 G0) [(7, .int .i64 a), (6, .int .i64 last), (5, .slice none 0 0), (2, .pointer (some ⟨0, 0, none⟩)), (1, str s)])) (HP [X (rxC r) 47 0 true]) = alO (alF r s k a last []) := by
  intro k
  induction k with
  | zero =>
    intro a last h0 h1 h2
    rw [alF, wqz, if_pos rfl, if_pos rfl]
    refine wcb wob ?_
    unfold wzb
    (repeat' (first | (simp -implicitDefEqProofs (maxSteps := 2000000) (disch := first | with_reducible assumption | omega | (simp only [zS, zA, seval, web, wmb, zD] <;> omega) | fail) only [zS, argl, insA, Go.Den.wm, wo, wu, looks, wz, wy, idOf, riA, seval, Go.Den.wh, kK, wrb, web, wmb, ej47, *, zT]) | (with_reducible (first | apply z1 | apply z2 | apply z3 | apply z4) <;> intro hq <;> (try simp only [zH] at hq) <;> (try (exfalso; omega)))))
  | succ k ih =>
    intro a last h0 h1 h2
    rw [alF]
    by_cases ha : a ≤ s.length
    · rw [if_pos ha]
      have hf := wcqb r hn s hs a
      cases hm : wyj r s a with
      | none =>
        rw [hm, Option.getD_none, Option.isSome_none] at hf
        show _ = alO (false, [])
        rw [wqz, if_neg (by simp), if_neg (by simp)]
        clear ih hm
        refine wcb wob ?_
        unfold wzb
        (repeat' (first | (simp -implicitDefEqProofs (maxSteps := 2000000) (disch := first | with_reducible assumption | omega | (simp only [zS, zA, seval, web, wmb, zD] <;> omega) | fail) only [zS, argl, insA, Go.Den.wm, wo, wu, looks, wz, wy, idOf, riA, seval, Go.Den.wh, kK, wrb, web, wmb, ej47, *, zT]) | (with_reducible (first | apply z1 | apply z2 | apply z3 | apply z4) <;> intro hq <;> (try simp only [zH] at hq) <;> (try (exfalso; omega)))))
      | some m =>
        rw [hm, Option.getD_some, Option.isSome_some] at hf
        have hr := wgq hm
        clear hm
        show _ = alO (if m.at 0 = m.at 1 then (if m.at 1 = last then alF r s k (m.at 1 + 1) last [] else alF r s k (m.at 1 + 1) (m.at 1) ([] ++ [m])) else alF r s k (m.at 1) (m.at 1) ([] ++ [m]))
        rw [List.nil_append]
        by_cases hq : m.at 0 = m.at 1
        · rw [if_pos hq]
          by_cases hl2 : m.at 1 = last
          · rw [if_pos hl2]
            have h := ih (m.at 1 + 1) last (by omega) (by omega) (by omega)
            generalize alF r s k (m.at 1 + 1) last [] = p at h ⊢
            obtain ⟨b, l⟩ := p
            rw [hl2] at h
            clear ih
            by_cases hne : l = []
            · subst hne
              rw [wqz] at h ⊢
              cases b with
              | true =>
                rw [if_pos rfl, if_pos rfl] at h ⊢
                refine wcb wob ?_
                unfold wzb
                (repeat' (first | (simp -implicitDefEqProofs (maxSteps := 2000000) (disch := first | with_reducible assumption | omega | (simp only [zS, zA, seval, web, wmb, wse, wxe, zD] <;> omega) | fail) only [zS, argl, insA, Go.Den.wm, wo, wu, looks, wz, wy, idOf, riA, seval, Go.Den.wh, kK, wrb, web, wmb, ej47, *, zT]) | (with_reducible (first | apply z1 | apply z2 | apply z3 | apply z4) <;> intro hq <;> (try simp only [zH] at hq) <;> (try (exfalso; omega)))))
              | false =>
                rw [if_neg (by simp), if_neg (by simp)] at h ⊢
                refine wcb wob ?_
                unfold wzb
                (repeat' (first | (simp -implicitDefEqProofs (maxSteps := 2000000) (disch := first | with_reducible assumption | omega | (simp only [zS, zA, seval, web, wmb, wse, wxe, zD] <;> omega) | fail) only [zS, argl, insA, Go.Den.wm, wo, wu, looks, wz, wy, idOf, riA, seval, Go.Den.wh, kK, wrb, web, wmb, ej47, *, zT]) | (with_reducible (first | apply z1 | apply z2 | apply z3 | apply z4) <;> intro hq <;> (try simp only [zH] at hq) <;> (try (exfalso; omega)))))
            · rw [wsr hne] at h ⊢
              cases b with
              | true =>
                rw [if_pos rfl, if_pos rfl] at h ⊢
                refine wcb wob ?_
                unfold wzb
                (repeat' (first | (simp -implicitDefEqProofs (maxSteps := 2000000) (disch := first | with_reducible assumption | omega | (simp only [zS, zA, seval, web, wmb, wse, wxe, zD] <;> omega) | fail) only [zS, argl, insA, Go.Den.wm, wo, wu, looks, wz, wy, idOf, riA, seval, Go.Den.wh, kK, wrb, web, wmb, ej47, *, zT]) | (with_reducible (first | apply z1 | apply z2 | apply z3 | apply z4) <;> intro hq <;> (try simp only [zH] at hq) <;> (try (exfalso; omega)))))
              | false =>
                rw [if_neg (by simp), if_neg (by simp)] at h ⊢
                refine wcb wob ?_
                unfold wzb
                (repeat' (first | (simp -implicitDefEqProofs (maxSteps := 2000000) (disch := first | with_reducible assumption | omega | (simp only [zS, zA, seval, web, wmb, wse, wxe, zD] <;> omega) | fail) only [zS, argl, insA, Go.Den.wm, wo, wu, looks, wz, wy, idOf, riA, seval, Go.Den.wh, kK, wrb, web, wmb, ej47, *, zT]) | (with_reducible (first | apply z1 | apply z2 | apply z3 | apply z4) <;> intro hq <;> (try simp only [zH] at hq) <;> (try (exfalso; omega)))))
          · rw [if_neg hl2]
            have h := wcjb r hn s hs k (m.at 1 + 1) (m.at 1) [m] (by omega) (by omega) (by omega) (by simp) (by simp; omega)
            have hne := wbjb (r := r) (s := s) k (m.at 1 + 1) (m.at 1) [m] (List.cons_ne_nil m [])
            generalize alF r s k (m.at 1 + 1) (m.at 1) [m] = p at h hne ⊢
            obtain ⟨b, l⟩ := p
            rw [wsr hne] at h ⊢
            clear ih
            rw [show [m].length = 1 from rfl, ← wbnb] at h
            cases b with
            | true =>
              rw [if_pos rfl, if_pos rfl] at h ⊢
              refine wcb wob ?_
              unfold wzb
              (repeat' (first | (simp -implicitDefEqProofs (maxSteps := 2000000) (disch := first | with_reducible assumption | omega | (simp only [zS, zA, seval, web, wmb, wse, wxe, zD] <;> omega) | fail) only [zS, argl, insA, Go.Den.wm, wo, wu, looks, wz, wy, idOf, riA, seval, Go.Den.wh, kK, wrb, web, wmb, ej47, *, zT]) | (with_reducible (first | apply z1 | apply z2 | apply z3 | apply z4) <;> intro hq <;> (try simp only [zH] at hq) <;> (try (exfalso; omega)))))
            | false =>
              rw [if_neg (by simp), if_neg (by simp)] at h ⊢
              refine wcb wob ?_
              unfold wzb
              (repeat' (first | (simp -implicitDefEqProofs (maxSteps := 2000000) (disch := first | with_reducible assumption | omega | (simp only [zS, zA, seval, web, wmb, wse, wxe, zD] <;> omega) | fail) only [zS, argl, insA, Go.Den.wm, wo, wu, looks, wz, wy, idOf, riA, seval, Go.Den.wh, kK, wrb, web, wmb, ej47, *, zT]) | (with_reducible (first | apply z1 | apply z2 | apply z3 | apply z4) <;> intro hq <;> (try simp only [zH] at hq) <;> (try (exfalso; omega)))))
        · rw [if_neg hq]
          have h := wcjb r hn s hs k (m.at 1) (m.at 1) [m] (by omega) (by omega) (by omega) (by simp) (by simp; omega)
          have hne := wbjb (r := r) (s := s) k (m.at 1) (m.at 1) [m] (List.cons_ne_nil m [])
          generalize alF r s k (m.at 1) (m.at 1) [m] = p at h hne ⊢
          obtain ⟨b, l⟩ := p
          rw [wsr hne] at h ⊢
          clear ih
          rw [show [m].length = 1 from rfl, ← wbnb] at h
          cases b with
          | true =>
            rw [if_pos rfl, if_pos rfl] at h ⊢
            refine wcb wob ?_
            unfold wzb
            (repeat' (first | (simp -implicitDefEqProofs (maxSteps := 2000000) (disch := first | with_reducible assumption | omega | (simp only [zS, zA, seval, web, wmb, wse, wxe, zD] <;> omega) | fail) only [zS, argl, insA, Go.Den.wm, wo, wu, looks, wz, wy, idOf, riA, seval, Go.Den.wh, kK, wrb, web, wmb, ej47, *, zT]) | (with_reducible (first | apply z1 | apply z2 | apply z3 | apply z4) <;> intro hq <;> (try simp only [zH] at hq) <;> (try (exfalso; omega)))))
          | false =>
            rw [if_neg (by simp), if_neg (by simp)] at h ⊢
            refine wcb wob ?_
            unfold wzb
            (repeat' (first | (simp -implicitDefEqProofs (maxSteps := 2000000) (disch := first | with_reducible assumption | omega | (simp only [zS, zA, seval, web, wmb, wse, wxe, zD] <;> omega) | fail) only [zS, argl, insA, Go.Den.wm, wo, wu, looks, wz, wy, idOf, riA, seval, Go.Den.wh, kK, wrb, web, wmb, ej47, *, zT]) | (with_reducible (first | apply z1 | apply z2 | apply z3 | apply z4) <;> intro hq <;> (try simp only [zH] at hq) <;> (try (exfalso; omega)))))
    · rw [if_neg ha]
      show _ = alO (true, [])
      rw [wqz, if_pos rfl, if_pos rfl]
      clear ih
      refine wcb wob ?_
      unfold wzb
      (repeat' (first | (simp -implicitDefEqProofs (maxSteps := 2000000) (disch := first | with_reducible assumption | omega | (simp only [zS, zA, seval, web, wmb, zD] <;> omega) | fail) only [zS, argl, insA, Go.Den.wm, wo, wu, looks, wz, wy, idOf, riA, seval, Go.Den.wh, kK, wrb, web, wmb, ej47, *, zT]) | (with_reducible (first | apply z1 | apply z2 | apply z3 | apply z4) <;> intro hq <;> (try simp only [zH] at hq) <;> (try (exfalso; omega)))))
def allR (r : Rx) (s : List UInt8) : List Mt := (alF r s (s.length + 1) 0 (-1) []).2
theorem ev_All (r : Rx) (hn : wec r ≤ 1000000) (s : List UInt8) (hs : s.length ≤ 12) : lim Try.prog cfg (.call 27 [.agg ⟨rxC r⟩, str s]) (HP []) = some (.val (FL (allR r s).length (mtsC (allR r s))), HP []) := by
  have h := wqfc r hn s hs (s.length + 1) 0 (-1) (by omega) (by omega) (by omega)
  refine wib hc woab (Nat.le_of_ble_eq_true rfl) (Nat.le_of_ble_eq_true rfl) ?_
  unfold wcz allR
  generalize alF r s (s.length + 1) 0 (-1) [] = p at h ⊢
  obtain ⟨b, l⟩ := p
  by_cases hne : l = []
  · subst hne
    rw [wqz] at h
    cases b with
    | true =>
      rw [if_pos rfl, if_pos rfl] at h
      (repeat' (first | (simp -implicitDefEqProofs (maxSteps := 2000000) (disch := first | with_reducible assumption | omega | (simp only [zS, zA, seval, web, wmb, wse, wxe, zD] <;> omega) | fail) only [zS, argl, insA, Go.Den.wm, wo, wu, looks, wz, wy, idOf, riA, seval, Go.Den.wh, kK, wrb, web, wmb, ej47, *, zT]) | (with_reducible (first | apply z1 | apply z2 | apply z3 | apply z4) <;> intro hq <;> (try simp only [zH] at hq) <;> (try (exfalso; omega)))))
      all_goals rfl
    | false =>
      rw [if_neg (by simp), if_neg (by simp)] at h
      (repeat' (first | (simp -implicitDefEqProofs (maxSteps := 2000000) (disch := first | with_reducible assumption | omega | (simp only [zS, zA, seval, web, wmb, wse, wxe, zD] <;> omega) | fail) only [zS, argl, insA, Go.Den.wm, wo, wu, looks, wz, wy, idOf, riA, seval, Go.Den.wh, kK, wrb, web, wmb, ej47, *, zT]) | (with_reducible (first | apply z1 | apply z2 | apply z3 | apply z4) <;> intro hq <;> (try simp only [zH] at hq) <;> (try (exfalso; omega)))))
      all_goals rfl
  · rw [wsr hne] at h
    cases b with
    | true =>
      rw [if_pos rfl, if_pos rfl] at h
      (repeat' (first | (simp -implicitDefEqProofs (maxSteps := 2000000) (disch := first | with_reducible assumption | omega | (simp only [zS, zA, seval, web, wmb, wse, wxe, zD] <;> omega) | fail) only [zS, argl, insA, Go.Den.wm, wo, wu, looks, wz, wy, idOf, riA, seval, Go.Den.wh, kK, wrb, web, wmb, ej47, *, zT]) | (with_reducible (first | apply z1 | apply z2 | apply z3 | apply z4) <;> intro hq <;> (try simp only [zH] at hq) <;> (try (exfalso; omega)))))
      all_goals rfl
    | false =>
      rw [if_neg (by simp), if_neg (by simp)] at h
      (repeat' (first | (simp -implicitDefEqProofs (maxSteps := 2000000) (disch := first | with_reducible assumption | omega | (simp only [zS, zA, seval, web, wmb, wse, wxe, zD] <;> omega) | fail) only [zS, argl, insA, Go.Den.wm, wo, wu, looks, wz, wy, idOf, riA, seval, Go.Den.wh, kK, wrb, web, wmb, ej47, *, zT]) | (with_reducible (first | apply z1 | apply z2 | apply z3 | apply z4) <;> intro hq <;> (try simp only [zH] at hq) <;> (try (exfalso; omega)))))
      all_goals rfl
end
end Go.Proofs.Ytdbhfmdndiphcaa
namespace Go.Proofs.Ytdbhfmdndiphcaa
set_option linter.unusedVariables false
set_option linter.unusedSimpArgs false
open Go.Den
noncomputable section
abbrev Pc := Int × List UInt8
def pcC (p : Pc) : List Value := [.int .i64 p.1, str p.2]
def pcsC (l : List Pc) : List Value := l.flatMap pcC
theorem pc_len {p : Pc} : (pcC p).length = 2 := rfl
theorem pc_atom {p : Pc} : wwe (pcC p) = true := rfl
theorem wrfc {l : List Pc} : (pcsC l).length = l.length * 2 := wyw (fun _ => pc_len) l
theorem wfqb {l : List Pc} {i : Nat} (h : i < l.length) : slotsOf (pcsC l) (i * 2) 2 = [.int .i64 (l.getD i (0, [])).1, str (l.getD i (0, [])).2] := wcu (fun _ => pc_len) _ l i h
theorem pcs_atom {l : List Pc} : wwe (pcsC l) = true := wdu (fun _ => pc_atom) l
theorem whq (l : List Pc) : FzL (pcsC l) := fzl pcs_atom
def wbp (m : Mt) (s : List UInt8) (p : Pc) : List UInt8 := if p.1 = -1 then p.2 else wfu m s p.1
def wem (m : Mt) (s : List UInt8) (l : List Pc) : List UInt8 := l.flatMap (wbp m s)
theorem wsfc (m : Mt) (s : List UInt8) (n : Int) : (wfu m s n).length ≤ s.length := by
  unfold wfu
  repeat' split
  all_goals first | exact Nat.zero_le _ | (rw [List.length_drop, List.length_take]; omega)
theorem wrz {m : Mt} {s : List UInt8} {p : Pc} (hs : s.length ≤ 1000) (hp : p.2.length ≤ 1000) : (wbp m s p).length ≤ 1000 := by
  unfold wbp
  split
  · exact hp
  · have := wsfc m s p.1; omega
theorem wgqb {l : List Pc} {i : Nat} (h : i < l.length) : l.drop i = l.getD i (0, []) :: l.drop (i + 1) := by
  rw [List.drop_eq_getElem_cons h, List.getD_eq_getElem?_getD, List.getElem?_eq_getElem h]; rfl
theorem wtfc {l : List Pc} {i : Nat} (h : i < l.length) : l.getD i (0, []) ∈ l := by
  rw [List.getD_eq_getElem?_getD, List.getElem?_eq_getElem h]; exact List.getElem_mem h
abbrev sbP1 : Value := .pointer (some ⟨1, 0, none⟩)
def sbA1 (a : Bool) : Value := if a = true then sbP1 else .pointer none
abbrev tfH (m : Mt) : ABlk := X (mtC m) 55 0 true
set_option maxHeartbeats 2000000 in
set_option maxRecDepth 20000 in
theorem fill_C (m : Mt) (s : List UInt8) (hs : s.length ≤ 1000) (L : List Pc) (hL : L.length ≤ 100) (hp : ∀ p ∈ L, p.2.length ≤ 1000) : ∀ (k i : Nat) (l : List UInt8), i + k = L.length → l ≠ [] → l.length ≤ 1000 + i * 1000 →
    lim Try.prog cfg (.loop 45 0 (wxl 0) (SE (EJ 30 G0) [(12, .int .i64 i), (11, .int .i64 L.length), (10, FL L.length (pcsC L)), (7, sbP1), (4, .pointer (some ⟨0, 0, none⟩)), (2, str s)])) (HP [tfH m, X [sbP1, FO 2 l.length (u8s l)] SB 0 false, .tok l.length BY 1]) = some (.code (.exit 0) (SE (EJ 30 G0) [(7, sbP)]), HP [X [sbP, FO 1 (l ++ wem m s (L.drop i)).length (u8s (l ++ wem m s (L.drop i)))] SB 0 false, .tok (l ++ wem m s (L.drop i)).length BY 1]) := by
  intro k
  induction k with
  | zero =>
    intro i l hi hne hl
    clear hp
    rw [List.drop_of_length_le (by omega), wem, List.flatMap_nil, List.append_nil]
    refine wcb wvi ?_
    unfold wrj
    (repeat' (first | (simp -implicitDefEqProofs (maxSteps := 2000000) (disch := first | with_reducible assumption | omega | (simp only [zS, zA, seval, wwj, wxe, whq, zD] <;> omega) | fail) only [zS, argl, insA, Go.Den.wm, wo, wu, looks, wz, wy, idOf, riA, seval, Go.Den.wh, kK, wtj, *, zT]) | (with_reducible (first | apply z1 | apply z2 | apply z3 | apply z4) <;> intro hq <;> (try simp only [zH] at hq) <;> (try (exfalso; omega)))))
  | succ k ih =>
    intro i l hi hne hl
    have hlt : i < L.length := by omega
    have hpl := wrz (m := m) hs (hp _ (wtfc hlt))
    rw [wgqb hlt, wem, List.flatMap_cons]
    have hg := wrpb m s (L.getD i (0, [])).1
    have hq : (if (L.getD i (0, [])).1 = -1 then (L.getD i (0, [])).2 else wfu m s (L.getD i (0, [])).1) = wbp m s (L.getD i (0, [])) := rfl
    generalize wbp m s (L.getD i (0, [])) = p at *
    have hlen : (pcsC L).length = L.length * 2 := wrfc
    have hle : i * 2 + 2 ≤ (pcsC L).length := by omega
    have hi2 : i + 1 + k = L.length := by omega
    have hl2 : l.length ≤ 1000 + (i + 1) * 1000 := by omega
    have h := ih (i + 1) (l ++ p) hi2 (by simp [hne]) (by rw [List.length_append]; omega)
    rw [← List.append_assoc]
    unfold wem at h
    generalize l ++ p ++ List.flatMap (wbp m s) (L.drop (i + 1)) = R at h ⊢
    have hw := wnv l p (by omega)
    generalize l ++ p = l2 at h hw
    clear ih hp
    by_cases h1 : (L.getD i (0, [])).1 = -1
    case' pos => rw [if_pos h1] at hq
    case' neg => rw [if_neg h1] at hq
    all_goals
      refine wcb wvi ?_
      unfold wrj
      (repeat' (first | (simp -implicitDefEqProofs (maxSteps := 2000000) (disch := first | with_reducible assumption | omega | (simp only [zS, zA, seval, wwj, wxe, whq, zD] <;> omega) | fail) only [zS, argl, insA, Go.Den.wm, wo, wu, looks, wz, wy, idOf, riA, seval, Go.Den.wh, kK, wtj, wfqb, *, zT]) | (with_reducible (first | apply z1 | apply z2 | apply z3 | apply z4) <;> intro hq <;> (try simp only [zH] at hq) <;> (try (exfalso; omega)))))
      exact h
theorem sbA1_t : sbA1 true = sbP1 := rfl
theorem sbA1_f : sbA1 false = .pointer none := rfl
set_option maxHeartbeats 4000000 in
theorem fill_N (m : Mt) (s : List UInt8) (hs : s.length ≤ 1000) (L : List Pc) (hL : L.length ≤ 100) (hp : ∀ p ∈ L, p.2.length ≤ 1000) : ∀ (k i : Nat) (a : Bool), i + k = L.length →
    lim Try.prog cfg (.loop 45 0 (wxl 0) (SE (EJ 30 G0) [(12, .int .i64 i), (11, .int .i64 L.length), (10, FL L.length (pcsC L)), (7, sbP1), (4, .pointer (some ⟨0, 0, none⟩)), (2, str s)])) (HP [tfH m, X [sbA1 a, .slice none 0 0] SB 0 false]) = some (.code (.exit 0) (SE (EJ 30 G0) [(7, sbP)]), HP (sbH (a || decide (0 < k)) (wem m s (L.drop i)))) := by
  intro k
  induction k with
  | zero =>
    intro i a hi
    clear hp
    rw [List.drop_of_length_le (by omega), wem, List.flatMap_nil, wfvb, show (a || decide (0 < 0)) = a by cases a <;> rfl]
    refine wcb wvi ?_
    unfold wrj
    cases a <;> simp only [wsib, wtib, sbA1_t, sbA1_f]
    all_goals (repeat' (first | (simp -implicitDefEqProofs (maxSteps := 2000000) (disch := first | with_reducible assumption | omega | (simp only [zS, zA, seval, wwj, wxe, whq, zD] <;> omega) | fail) only [zS, argl, insA, Go.Den.wm, wo, wu, looks, wz, wy, idOf, riA, seval, Go.Den.wh, kK, wtj, *, zT]) | (with_reducible (first | apply z1 | apply z2 | apply z3 | apply z4) <;> intro hq <;> (try simp only [zH] at hq) <;> (try (exfalso; omega)))))
  | succ k ih =>
    intro i a hi
    have hlt : i < L.length := by omega
    have hpl := wrz (m := m) hs (hp _ (wtfc hlt))
    have hi2 : i + 1 + k = L.length := by omega
    rw [wgqb hlt, wem, List.flatMap_cons]
    have hg := wrpb m s (L.getD i (0, [])).1
    have hq : (if (L.getD i (0, [])).1 = -1 then (L.getD i (0, [])).2 else wfu m s (L.getD i (0, [])).1) = wbp m s (L.getD i (0, [])) := rfl
    have hC := fill_C m s hs L hL hp k (i + 1)
    generalize wbp m s (L.getD i (0, [])) = p at *
    have hlen : (pcsC L).length = L.length * 2 := wrfc
    have hle : i * 2 + 2 ≤ (pcsC L).length := by omega
    have hpl2 : p.length ≤ 1000 + (i + 1) * 1000 := by omega
    have hpl3 : p.length ≤ 1000000 := by omega
    have ha : (a || decide (0 < k + 1)) = true := by rw [decide_eq_true (Nat.succ_pos k), Bool.or_true]
    rw [ha]
    by_cases h0 : p = []
    case' pos =>
      have h := ih (i + 1) true hi2
      rw [Bool.true_or] at h
      rw [h0, List.nil_append]
      rw [h0] at hq
      unfold wem at h
      generalize sbH true (List.flatMap (wbp m s) (L.drop (i + 1))) = R at h ⊢
      have hw := wzw a
    case' neg =>
      have h := hC p hi2 h0 hpl2
      have hne : p ++ List.flatMap (wbp m s) (L.drop (i + 1)) ≠ [] := by simp [h0]
      rw [wgnb hne]
      unfold wem at h
      generalize p ++ List.flatMap (wbp m s) (L.drop (i + 1)) = R at h ⊢
      have hw := wax a p hpl3 h0
      clear hne
    all_goals
      clear ih hp hC ha hpl hpl2 hpl3 hi2
      by_cases h1 : (L.getD i (0, [])).1 = -1
      case' pos => rw [if_pos h1] at hq
      case' neg => rw [if_neg h1] at hq
    all_goals
      cases a <;> simp only [wsib, wtib, sbA1_t, sbA1_f] at hw h ⊢
    all_goals
      refine wcb wvi ?_
      unfold wrj
      (repeat' (first | (simp -implicitDefEqProofs (maxSteps := 2000000) (disch := first | with_reducible assumption | omega | (simp only [zS, zA, seval, wwj, wxe, whq, zD] <;> omega) | fail) only [zS, argl, insA, Go.Den.wm, wo, wu, looks, wz, wy, idOf, riA, seval, Go.Den.wh, kK, wtj, wfqb, *, zT]) | (with_reducible (first | apply z1 | apply z2 | apply z3 | apply z4) <;> intro hq <;> (try simp only [zH] at hq) <;> (try (exfalso; omega)))))
      exact h
theorem wufc (a : Bool) (l : List UInt8) (hl : l.length ≤ 1000000) : lim Try.prog cfg (.call 53 [sbP]) (HP (sbH a l)) = some (.val (str l), HP (sbH a l)) := by
  by_cases h : l = []
  · subst h
    rw [wfvb]
    exact wtpb a
  · rw [wgnb h]
    exact wyeb l (List.length_pos_iff.2 h) hl
theorem wbx (m : Mt) (s : List UInt8) (hs : s.length ≤ 1000) : ∀ L : List Pc, (∀ p ∈ L, p.2.length ≤ 1000) → (wem m s L).length ≤ L.length * 1000 := by
  intro L
  induction L with
  | nil => intro _; exact Nat.le_refl _
  | cons p L ih =>
    intro h
    have h1 := ih fun q hq => h q (List.mem_cons_of_mem _ hq)
    have h2 := wrz (m := m) hs (h p (List.mem_cons_self ..))
    unfold wem at h1 ⊢
    rw [List.flatMap_cons, List.length_append, List.length_cons]
    omega
theorem wvfc (m : Mt) (s : List UInt8) (hs : s.length ≤ 1000) (L : List Pc) (hL : L.length ≤ 100) (hp : ∀ p ∈ L, p.2.length ≤ 1000) : lim Try.prog cfg (.call 45 [FL L.length (pcsC L), .agg ⟨mtC m⟩, str s]) (HP []) = some (.val (str (wem m s L)), HP []) := by
  have h := fill_N m s hs L hL hp L.length 0 false (by omega)
  have hlen := wbx m s hs L hp
  rw [List.drop_zero, Bool.false_or, show ((0 : Nat) : Int) = 0 from rfl, show sbA1 false = .pointer none from rfl] at h
  generalize wem m s L = R at *
  generalize decide (0 < L.length) = a at h
  have hw := wufc a R (by omega)
  clear hp hlen
  refine wib hc wuab (Nat.le_of_ble_eq_true rfl) (Nat.le_of_ble_eq_true rfl) ?_
  unfold wiz
  by_cases hR : R = []
  case' pos =>
    subst hR
    rw [wfvb] at h hw
    cases a <;> simp only [wsib, wtib] at h hw
  case' neg => rw [wgnb hR] at h hw
  all_goals (repeat' (first | (simp -implicitDefEqProofs (maxSteps := 2000000) (disch := first | with_reducible assumption | omega | (simp only [zS, zA, seval, wwj, wxe, whq, zD] <;> omega) | fail) only [zS, argl, insA, Go.Den.wm, wo, wu, looks, wz, wy, idOf, riA, seval, Go.Den.wh, kK, wtj, *, zT]) | (with_reducible (first | apply z1 | apply z2 | apply z3 | apply z4) <;> intro hq <;> (try simp only [zH] at hq) <;> (try (exfalso; omega)))))
end
end Go.Proofs.Ytdbhfmdndiphcaa
namespace Go.Den
noncomputable section
section
variable {len : Nat} {s : List UInt8} {bol : Bool} {Q : St → Prop}
theorem whqb {α : Type} (f : α → List St) : ∀ (l : List α), (∀ z ∈ l, ∀ y ∈ f z, Q y) → ∀ out : List St, (∀ y ∈ out, Q y) → ∀ y ∈ l.foldl (fun out z => addF out (f z)) out, Q y := by
  intro l
  induction l with
  | nil => intro _ out h; exact h
  | cons z l ih =>
    intro hf out h
    refine ih (fun z' hz' => hf z' (List.mem_cons_of_mem _ hz')) _ ?_
    intro y hy
    rcases (wcr _ _).1 hy with h1 | h1
    · exact h y h1
    · exact hf z (List.mem_cons_self ..) y h1
theorem inv_on {w : St → List St} {mn mx : Int} (hw : ∀ x, GdS len x → Q x → ∀ y ∈ w x, GdS len y ∧ Q y) : ∀ (k : Nat) (n : Int) (x : St) (a : List (Int × St) × List St), GdS len x → Q x → (∀ y ∈ a.2, Q y) → ∀ y ∈ (onF w mn mx k n x a).2, Q y := by
  intro k
  induction k with
  | zero => intro n x a _ _ h; exact h
  | succ k ih =>
    intro n x a hx hxq h
    have hf : ∀ (l : List St), (∀ y ∈ l, GdS len y ∧ Q y) → ∀ b : List (Int × St) × List St, (∀ y ∈ b.2, Q y) → ∀ y ∈ (l.foldl (fun b y => if y.1 ≠ x.1 ∨ n < mn then onF w mn mx k (n + 1) y b else b) b).2, Q y := by
      intro l
      induction l with
      | nil => intro _ b hb; exact hb
      | cons y l ih2 =>
        intro hl b hb
        have hy := hl y (List.mem_cons_self ..)
        refine ih2 (fun z hz => hl z (List.mem_cons_of_mem _ hz)) _ ?_
        show ∀ z ∈ (if y.1 ≠ x.1 ∨ n < mn then onF w mn mx k (n + 1) y b else b).2, Q z
        split
        · exact ih _ _ _ hy.1 hy.2 hb
        · exact hb
    unfold onF
    split
    · exact h
    · simp only
      have hb : ∀ y ∈ (if mx < 0 ∨ n < mx then (w x).foldl (fun b y => if y.1 ≠ x.1 ∨ n < mn then onF w mn mx k (n + 1) y b else b) (a.1 ++ [keyF mn mx n x], a.2) else (a.1 ++ [keyF mn mx n x], a.2)).2, Q y := by
        split
        · exact hf (w x) (hw x hx hxq) _ h
        · exact h
      split
      · intro y hy
        rcases (wcr _ _).1 hy with h1 | h1
        · exact hb y h1
        · rw [List.mem_singleton] at h1; subst h1; exact hxq
      · exact hb
theorem ways_inv (hs : s.length = len) (hmove : ∀ (x : St) (a : Int), Q x → x.1 ≤ a → Q (a, x.2)) (hgroup : ∀ (x y : St) (n : Int), Q x → Q y → x.1 ≤ y.1 → 1 ≤ n → n ≤ 3 → Q (y.1, (y.2.put (n.toNat * 2) x.1).put (n.toNat * 2 + 1) y.1)) :
    ∀ (r : Rx), okR r = true → ∀ x, GdS len x → Q x → ∀ y ∈ wjg s bol r x, Q y := by
  refine Rx.rec (motive_1 := fun r => okR r = true → ∀ x, GdS len x → Q x → ∀ y ∈ wjg s bol r x, Q y)
    (motive_2 := fun kids => okRs kids = true → (∀ r ∈ kids, okR r = true ∧ ∀ x, GdS len x → Q x → ∀ y ∈ wjg s bol r x, Q y)) ?_ ?_ ?_
  · intro k mn mx n set kids ih hok x hx hq
    have hrow := wmu (s := s) hs (bol := bol) _ hok x hx
    rw [okR, Bool.and_eq_true] at hok
    have hk := ih hok.2
    have hkq : ∀ r ∈ kids, ∀ x, GdS len x → Q x → ∀ y ∈ wjg s bol r x, GdS len y ∧ Q y ∧ x.1 ≤ y.1 := by
      intro r hr x hx hq y hy
      have h1 := (wmu (s := s) hs (bol := bol) r (hk r hr).1 x hx).good y hy
      exact ⟨h1.1, (hk r hr).2 x hx hq y hy, h1.2⟩
    have kid : kids ≠ [] → ∀ x, GdS len x → Q x → ∀ y ∈ kidF s bol kids x, GdS len y ∧ Q y ∧ x.1 ≤ y.1 := by
      intro hne y hy
      cases kids with
      | nil => exact absurd rfl hne
      | cons r rs => rw [kidF]; exact hkq r (List.mem_cons_self ..) y hy
    clear hrow
    rw [wjg]
    split
    · split
      · intro y hy; rw [List.mem_singleton] at hy; subst hy; exact hmove x _ hq (by omega)
      · intro y hy; cases hy
    split
    · split
      · intro y hy; rw [List.mem_singleton] at hy; subst hy; exact hq
      · intro y hy; cases hy
    split
    · split
      · intro y hy; rw [List.mem_singleton] at hy; subst hy; exact hq
      · intro y hy; cases hy
    split
    · rename_i h6
      have h := hok.1
      rw [if_neg (by omega), if_neg (by omega), if_pos h6] at h
      simp only [Bool.and_eq_true, decide_eq_true_eq] at h
      intro y hy
      have hb := (wvpb hs h.1 h.2 hx (n := n)).good y hy
      unfold whnb at hy
      split at hy
      · cases hy
      split at hy
      · cases hy
      split at hy
      · cases hy
      rw [List.mem_singleton] at hy
      subst hy
      exact hmove x _ hq hb.2
    split
    · rename_i h5
      have h := hok.1
      rw [if_pos h5] at h
      simp only [Bool.and_eq_true, decide_eq_true_eq] at h
      refine whqb (fun y : St => [(y.1, (y.2.put (n.toNat * 2) x.1).put (n.toNat * 2 + 1) y.1)]) _ (fun z hz y hy => ?_) _ (fun y hy => by cases hy)
      rw [List.mem_singleton] at hy
      subst hy
      have hz := kid h.1 x hx hq z hz
      exact hgroup x z n hq hz.2.1 hz.2.2 h.2.1 h.2.2
    split
    · have alt : ∀ (l : List Rx), (∀ r ∈ l, ∀ x, GdS len x → Q x → ∀ y ∈ wjg s bol r x, GdS len y ∧ Q y ∧ x.1 ≤ y.1) → ∀ out : List St, (∀ y ∈ out, Q y) → ∀ y ∈ altF s bol l x out, Q y := by
        intro l
        induction l with
        | nil => intro _ out h; rw [altF]; exact h
        | cons r l ih =>
          intro hl out h
          rw [altF]
          refine ih (fun r hr => hl r (List.mem_cons_of_mem _ hr)) _ ?_
          intro y hy
          rcases (wcr _ _).1 hy with h1 | h1
          · exact h y h1
          · exact (hl r (List.mem_cons_self ..) x hx hq y h1).2.1
      exact alt kids hkq [] (fun y hy => by cases hy)
    split
    · have cat : ∀ (l : List Rx), (∀ r ∈ l, ∀ x, GdS len x → Q x → ∀ y ∈ wjg s bol r x, GdS len y ∧ Q y ∧ x.1 ≤ y.1) → ∀ out : List St, (∀ y ∈ out, GdS len y ∧ Q y) → ∀ y ∈ catF s bol l out, Q y := by
        intro l
        induction l with
        | nil => intro _ out h; rw [catF]; exact fun y hy => (h y hy).2
        | cons r l ih =>
          intro hl out h
          rw [catF]
          refine ih (fun r hr => hl r (List.mem_cons_of_mem _ hr)) _ ?_
          refine whqb (Q := fun y => GdS len y ∧ Q y) (fun y => wjg s bol r y) _ (fun z hz y hy => ?_) _ (fun y hy => by cases hy)
          have h1 := h z hz
          have h2 := hl r (List.mem_cons_self ..) z h1.1 h1.2 y hy
          exact ⟨h2.1, h2.2.1⟩
      exact cat kids hkq [x] (fun y hy => by rw [List.mem_singleton] at hy; subst hy; exact ⟨hx, hq⟩)
    split
    · rename_i h4
      have h := hok.1
      rw [if_neg (by omega), if_pos h4] at h
      simp only [Bool.and_eq_true, decide_eq_true_eq] at h
      exact inv_on (fun y hy hyq z hz => by have := kid h.1 y hy hyq z hz; exact ⟨this.1, this.2.1⟩) 100 0 x _ hx hq (fun y hy => by cases hy)
    · intro y hy; cases hy
  · intro _ r hr; cases hr
  · intro r rs ih1 ih2 hok
    rw [okRs, Bool.and_eq_true] at hok
    intro r' hr'
    rcases List.mem_cons.1 hr' with rfl | h
    · exact ⟨hok.1, ih1 hok.1⟩
    · exact ih2 hok.2 r' h
end
end
end Go.Den
