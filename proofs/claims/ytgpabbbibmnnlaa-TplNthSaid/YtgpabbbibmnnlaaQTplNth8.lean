/-
  PARTS OF A PROOF, joined by a program (8 of 8): a proved reckoner of the model, and what the functions come to.
-/
import Derived.Test.YtgpabbbibmnnlaaQTplNth7
import Derived.ChangeSame
import Derived.WideKeyArgs
import Derived.OpenShut
import Derived.WideKeyPair
import Derived.ChangeSlices
set_option linter.unusedVariables false
set_option linter.unusedSimpArgs false
namespace Go.Proofs.Ytgpabbbibmnnlaa
set_option linter.unusedVariables false
set_option linter.unusedSimpArgs false
open Go.Den
noncomputable section
theorem subs_len (L : List Pc) (hL : L.length ≤ 5) (hp : ∀ p ∈ L, p.2.length ≤ 1000) (s : List UInt8) (hs : s.length ≤ 1000) : ∀ (ms : List Mt) (a : Int), (wmk L s a ms).length ≤ ms.length * 6000 := by
  intro ms
  induction ms with
  | nil => intro a; rw [wmk]; exact Nat.zero_le _
  | cons m ms ih =>
    intro a
    have h1 := wfdb (s := s) (a := a) (b := m.at 0)
    have h2 := wbv m s hs L hp
    have h3 := ih (m.at 1)
    unfold wrlb at h1
    rw [wmk, List.length_append, List.length_append, List.length_cons]
    omega
set_option maxRecDepth 20000 in
set_option maxHeartbeats 8000000 in
theorem wbec (r : Rx) (hn : wzc r ≤ 1000000) (s : List UInt8) (hs : s.length ≤ 12) (L : List Pc) (hL : L.length ≤ 5) (hp : ∀ p ∈ L, p.2.length ≤ 1000) (nth : Int) (N : Nat) (hN : max nth 1 - 1 = (N : Int)) (hN2 : N ≤ 1000) (global : Bool) :
    lim Try.prog cfg (.call 40 [.agg ⟨rxC r⟩, FL L.length (pcsC L), str s, .int .i64 nth, .bool global]) (HP []) = some (.val (.tuple ⟨[str (subR r L s N global).1, .bool (subR r L s N global).2]⟩), HP []) := by
  have ha := ev_All r hn s hs
  have hl := allR_len r s
  have hch := wntb r s
  obtain ⟨pv, hdr⟩ := wptb N (allR r s) none hch
  have hr0 := wotb hdr
  have hr1 := row_take _ 0 1 hr0
  clear hch hdr
  unfold subR askF
  have hcl : (mtsC (allR r s)).length = (allR r s).length * 8 := wtcb
  by_cases hlen : (allR r s).length ≤ N
  · rw [if_pos hlen]
    clear hr0 hr1 hp
    refine wnb hc wno (Nat.le_of_ble_eq_true rfl) (Nat.le_of_ble_eq_true rfl) ?_
    unfold wmo
    (repeat' (first | (simp -implicitDefEqProofs (maxSteps := 2000000) (disch := first | with_reducible assumption | omega | (simp only [zS, zA, seval, wgf, wso, rx_fz, zD] <;> omega) | fail) only [zS, argl, insA, Go.Den.wm, wo, wu, looks, wcb, wab, idOf, riA, seval, Go.Den.wh, kK, *, zT]) | (with_reducible (first | apply z1 | apply z2 | apply z3 | apply z4) <;> intro hq <;> (try simp only [zH] at hq) <;> (try (exfalso; omega)))))
  · rw [if_neg hlen]
    have hdl : (allR r s).length - N = ((allR r s).drop N).length := by rw [List.length_drop]
    have e1 : slotsOf (mtsC (allR r s)) (N * 8) (((allR r s).drop N).length * 8) = mtsC ((allR r s).drop N) := by
      rw [← hdl, waec (by omega), List.take_of_length_le (by omega)]
    have e2 : slotsOf (mtsC ((allR r s).drop N)) 0 8 = mtsC (((allR r s).drop N).take 1) := by
      have := waec (l := (allR r s).drop N) (n := 0) (k := 1) (by omega)
      rw [List.drop_zero] at this
      exact this
    have hcl2 : (mtsC ((allR r s).drop N)).length = ((allR r s).drop N).length * 8 := wtcb
    have hD0 : 0 < ((allR r s).drop N).length := by omega
    have hD1 : ((allR r s).drop N).length ≤ 13 := by omega
    have ht1 : (((allR r s).drop N).take 1).length = 1 := by rw [List.length_take]; omega
    have key : ∀ ms : List Mt, ms.length ≤ 13 → 0 < ms.length → rowF s.length 0 ms →
        ∃ (a : Int) (l q : List UInt8), lim Try.prog cfg (.loop 40 0 (wvh 0) (SE (EJ 66 G0) [(38, .int .i64 0), (37, .int .i64 ms.length), (36, FL ms.length (mtsC ms)), (15, .int .i64 0), (14, stP0), (2, str s), (1, FL L.length (pcsC L))])) (HP [X [.pointer none, .slice none 0 0] SB 0 false]) = some (.code (.exit 0) (SE (EJ 66 G0) [(15, .int .i64 a), (14, stP0), (2, str s)]), HP (sbH true l)) ∧ 0 ≤ a ∧ a ≤ s.length ∧ s.drop a.toNat = q ∧ wcl L s 0 ms = l ++ q ∧ l.length ≤ 78000 := by
      intro ms h13 h0 hrow
      have h := subst_N L hL hp s (by omega) ms h13 ms.length 0 false 0 (by omega) (by omega) (by rw [List.drop_zero]; exact hrow)
      rw [List.drop_zero, show ((0 : Nat) : Int) = 0 from rfl, show sbA false = .pointer none from rfl, Bool.false_or, decide_eq_true h0] at h
      have he := row_end ms 0 (by omega) (by omega) hrow
      have hsl := subs_len L hL hp s (by omega) ms 0
      exact ⟨_, _, _, h, he.1, he.2, rfl, wqlb L s ms 0, by omega⟩
    have k0 := key _ hD1 hD0 hr0
    have k1 := key _ (by omega) (by omega) hr1
    clear key hr0 hr1 hp
    have fin : ∀ (l q : List UInt8) (a : Int), s.drop a.toNat = q → q.length ≤ 12 → l.length ≤ 78000 →
        ∃ o : List UInt8 × Bool, (if 400 < (l ++ q).length then (s, false) else (l ++ q, true)) = o ∧
          ((l = [] ∧ q = [] ∧ o = ([], true)) ∨ (l = [] ∧ q ≠ [] ∧ o = (q, true) ∧ ¬ 400 < (q.length : Int)) ∨ (l ≠ [] ∧ 400 < ((l ++ q).length : Int) ∧ o = (s, false)) ∨ (l ≠ [] ∧ ¬ 400 < ((l ++ q).length : Int) ∧ o = (l ++ q, true))) := by
      intro l q a _ hq hl
      refine ⟨_, rfl, ?_⟩
      by_cases l0 : l = []
      · subst l0
        rw [List.nil_append, if_neg (by omega)]
        by_cases q0 : q = []
        · subst q0; exact .inl ⟨rfl, rfl, rfl⟩
        · exact .inr (.inl ⟨rfl, q0, rfl, by omega⟩)
      · by_cases hb : 400 < (l ++ q).length
        · exact .inr (.inr (.inl ⟨l0, by omega, if_pos hb⟩))
        · exact .inr (.inr (.inr ⟨l0, by omega, if_neg hb⟩))
    cases global
    case' false =>
      simp only [Bool.false_eq_true, if_false]
      clear k0
      rw [ht1, show ((1 : Nat) : Int) = 1 from rfl] at k1
      obtain ⟨a, l, q, hk, a0, a1, hq, htx, hll⟩ := k1
    case' true =>
      simp only [if_true, eq_self]
      clear k1 e2 ht1
      obtain ⟨a, l, q, hk, a0, a1, hq, htx, hll⟩ := k0
    all_goals
      have hql : q.length ≤ 12 := by rw [← hq, List.length_drop]; omega
      rw [htx]
      try generalize ((allR r s).drop N).take 1 = D1 at *
      generalize (allR r s).drop N = D at *
      generalize allR r s = all at *
      clear htx
      obtain ⟨o, ho, hcase⟩ := fin l q a hq hql hll
      rw [ho]
      clear fin ho
      rcases hcase with ⟨l0, q0, rfl⟩ | ⟨l0, q0, rfl, hbig⟩ | ⟨l0, hbig, rfl⟩ | ⟨l0, hbig, rfl⟩
      case' inl =>
        subst l0 q0
        rw [wgtb] at hk
        have w := wzu true
        have wl := len_0 true
        have ws := wpnb true
        simp only [show sbA true = sbP from rfl] at hk w wl ws
      case' inr.inl =>
        subst l0
        rw [wgtb] at hk
        have w := wav true q (by omega) q0
        have wl := len_1 q
        have ws := wxcb q (List.length_pos_iff.2 q0) (by omega)
        simp only [show sbA true = sbP from rfl] at hk w
        clear q0
      case' inr.inr.inl =>
        rw [wilb l0] at hk
        have w := wnt l q (by omega)
        generalize l ++ q = t at *
        have wl := len_1 t
        clear l0
      case' inr.inr.inr =>
        rw [wilb l0] at hk
        have w := wnt l q (by omega)
        have ws := wxcb (l ++ q) (List.length_pos_iff.2 (by simp [l0])) (by rw [List.length_append]; omega)
        generalize l ++ q = t at *
        have wl := len_1 t
        clear l0
    all_goals
      clear hll hql
      refine wnb hc wno (Nat.le_of_ble_eq_true rfl) (Nat.le_of_ble_eq_true rfl) ?_
      unfold wmo
      (repeat' (first | (simp -implicitDefEqProofs (maxSteps := 2000000) (disch := first | with_reducible assumption | omega | (simp only [zS, zA, seval, wgf, wso, rx_fz, wji, zD] <;> omega) | fail) only [zS, argl, insA, Go.Den.wm, wo, wu, looks, wcb, wab, idOf, riA, seval, Go.Den.wh, kK, wch, slS_FLa, slS_FLb, slG_some, *, zT]) | (with_reducible (first | apply z1 | apply z2 | apply z3 | apply z4) <;> intro hq <;> (try simp only [zH] at hq) <;> (try (exfalso; omega)))))
end
end Go.Proofs.Ytgpabbbibmnnlaa
namespace Go.Proofs.Ytgpabbbibmnnlaa
set_option linter.unusedVariables false
set_option linter.unusedSimpArgs false
open Go.Den
noncomputable section
def elems1 : Option ABlk → Option (List Value)
  | some (.cells b) => (match (bif rdOk b 0 1 then some b else none) with
    | some b => some (slotsOf b.cells 0 1)
    | none => none)
  | _ => none
def b2s1 (o : Option ABlk) : ARes := match elems1 o with
  | some l => bif l.all isU8 then val (.string ⟨(l.map toU8).toArray⟩) else .none
  | none => .none
theorem b2s_HP {h : List ABlk} (hh : h.length ≤ 1099511627774) {i c : Nat} : b2sR (HP h) (.slice (some ⟨i, 0, none⟩) 1 c) = b2s1 h[i]? := by
  have h2 : wcj (HP h) 1 1 (.slice (some ⟨i, 0, none⟩) 1 c) = elems1 h[i]? := by
    show (match wlg (HP h) ⟨i, 0, none⟩ 1 with
      | some b => some (slotsOf b.cells 0 1)
      | none => none) = _
    unfold wlg
    rw [wai h hh]
    cases h[i]? with
    | none => rfl
    | some b => cases b <;> rfl
  show (match wcj (HP h) 1 1 (.slice (some ⟨i, 0, none⟩) 1 c) with
    | some l => bif l.all isU8 then val (.string ⟨(l.map toU8).toArray⟩) else .none
    | none => .none) = _
  rw [h2]
  rfl
theorem b2s_X {x : Nat} {t z : Nat} {pf : Bool} (hx : x < 256) : b2s1 (some (X [.int .u8 (x : Nat)] t z pf)) = val (str [UInt8.ofNat x]) := by
  show (bif (Nat.blt x 256 && true) then val (.string ⟨#[UInt8.ofNat x]⟩) else .none) = _
  rw [nblt, decide_eq_true hx]
  rfl
def tb (k : Nat) : Nat := [97, 98, 97, 99, 98, 46, 97, 32].getD k 0
theorem tb_get {k : Nat} (h : k < 8) : ([.int .u8 97, .int .u8 98, .int .u8 97, .int .u8 99, .int .u8 98, .int .u8 46, .int .u8 97, .int .u8 32] : List Value)[k]? = some (.int .u8 (tb k)) := by
  rcases (show k = 0 ∨ k = 1 ∨ k = 2 ∨ k = 3 ∨ k = 4 ∨ k = 5 ∨ k = 6 ∨ k = 7 by omega) with rfl | rfl | rfl | rfl | rfl | rfl | rfl | rfl <;> rfl
theorem tb_lt (k : Nat) : tb k < 256 := by
  unfold tb
  rw [List.getD_eq_getElem?_getD]
  by_cases h : k < 8
  · rcases (show k = 0 ∨ k = 1 ∨ k = 2 ∨ k = 3 ∨ k = 4 ∨ k = 5 ∨ k = 6 ∨ k = 7 by omega) with rfl | rfl | rfl | rfl | rfl | rfl | rfl | rfl <;> decide
  · rw [List.getElem?_eq_none (by simp; omega)]; decide
def wcec (n : Int) : UInt8 := UInt8.ofNat (tb (wgi n 0 7).toNat)
def wqtb (l : List Int) (most : Nat) : List UInt8 := (l.take most).map wcec
theorem wwx (n : Int) : 0 ≤ wgi n 0 7 ∧ wgi n 0 7 ≤ 7 := by
  unfold wgi
  have := Int.emod_nonneg n (show (8 : Int) ≠ 0 by omega)
  have h5 := Int.emod_lt_of_pos n (show (0 : Int) < 8 by omega)
  rw [show (7 : Int) - 0 + 1 = 8 from rfl, Int.tmod_eq_emod]
  repeat' split
  all_goals omega
theorem wdec (l : List Int) (most : Nat) (hm : most ≤ 1000) : ∀ (k i : Nat) (acc : List UInt8), i + k = min l.length most → acc.length ≤ i →
    lim Try.prog cfg (.loop 26 0 (wpg 0) (SE (EJ 31 G0) [(6, .int .i64 i), (5, str acc), (1, .int .i64 most), (0, FL l.length (ints l))])) (HP []) = some (.code (.exit 0) (SE (EJ 31 G0) [(5, str (acc ++ ((l.take most).drop i).map wcec))]), HP []) := by
  intro k
  induction k with
  | zero =>
    intro i acc hi ha
    rw [List.drop_of_length_le (by rw [List.length_take]; omega), List.map_nil, List.append_nil]
    refine wbb woi ?_
    unfold wlh
    by_cases h1 : (i : Int) < l.length
    · have h2 : ¬ (i : Int) < most := by omega
      (repeat' (first | (simp -implicitDefEqProofs (maxSteps := 2000000) (disch := first | with_reducible assumption | omega | (simp only [zS, zA, seval] <;> omega) | fail) only [zS, argl, insA, Go.Den.wm, wo, wu, looks, wcb, wab, idOf, riA, seval, Go.Den.wh, kK, wnf, whh, wac, wmc, *]) | (with_reducible (first | apply z1 | apply z2 | apply z3 | apply z4) <;> intro hq <;> (try simp only [zH] at hq) <;> (try (exfalso; omega)))))
    · (repeat' (first | (simp -implicitDefEqProofs (maxSteps := 2000000) (disch := first | with_reducible assumption | omega | (simp only [zS, zA, seval] <;> omega) | fail) only [zS, argl, insA, Go.Den.wm, wo, wu, looks, wcb, wab, idOf, riA, seval, Go.Den.wh, kK, wnf, whh, wac, wmc, *]) | (with_reducible (first | apply z1 | apply z2 | apply z3 | apply z4) <;> intro hq <;> (try simp only [zH] at hq) <;> (try (exfalso; omega)))))
  | succ k ih =>
    intro i acc hi ha
    have hlt : i < (l.take most).length := by rw [List.length_take]; omega
    rw [List.drop_eq_getElem_cons hlt, List.map_cons]
    have hg := wwnb (l := l) (i := i) (by omega)
    have hv : (l.take most)[i] = l.getD i 0 := by rw [List.getElem_take, List.getD_eq_getElem?_getD, List.getElem?_eq_getElem (by omega)]; rfl
    rw [hv]
    have hw := wpgb (l.getD i 0) 0 7 (by omega) (by omega) (by omega)
    have hin := wwx (l.getD i 0)
    have htb := tb_get (k := (wgi (l.getD i 0) 0 7).toNat) (by omega)
    have hlt2 := tb_lt (wgi (l.getD i 0) 0 7).toNat
    have h1 : (i : Int) < l.length := by omega
    have h2 : (i : Int) < most := by omega
    · have h := ih (i + 1) (acc ++ [wcec (l.getD i 0)]) (by omega) (by simp; omega)
      rw [List.append_assoc, List.singleton_append] at h
      clear ih hv hlt
      unfold wcec at h ⊢
      generalize wgi (l.getD i 0) 0 7 = w at *
      generalize tb w.toNat = c at *
      refine wbb woi ?_
      unfold wlh
      (repeat' (first | (simp -implicitDefEqProofs (maxSteps := 2000000) (disch := first | with_reducible assumption | omega | (simp only [zS, zA, seval] <;> omega) | fail) only [zS, argl, insA, Go.Den.wm, wo, wu, looks, wcb, wab, idOf, riA, seval, Go.Den.wh, kK, wnf, whh, wac, wmc, b2s_HP, b2s_X, *]) | (with_reducible (first | apply z1 | apply z2 | apply z3 | apply z4) <;> intro hq <;> (try simp only [zH] at hq) <;> (try (exfalso; omega)))))
      exact h
theorem ev_Text (l : List Int) (most : Nat) (hm : most ≤ 1000) : lim Try.prog cfg (.call 26 [FL l.length (ints l), .int .i64 most]) (HP []) = some (.val (str (wqtb l most)), HP []) := by
  have h := wdec l most hm (min l.length most) 0 [] (by omega) (by simp)
  rw [List.drop_zero, List.nil_append, show ((0 : Nat) : Int) = 0 from rfl] at h
  refine wnb hc wsp (Nat.le_of_ble_eq_true rfl) (Nat.le_of_ble_eq_true rfl) ?_
  unfold wql
  show _ = some (Out.val (str ((l.take most).map wcec)), HP [])
  (repeat' (first | (simp -implicitDefEqProofs (maxSteps := 2000000) (disch := first | with_reducible assumption | omega | (simp only [zS, zA, seval] <;> omega) | fail) only [zS, argl, insA, Go.Den.wm, wo, wu, looks, wcb, wab, idOf, riA, seval, Go.Den.wh, kK, wnf, whh, *]) | (with_reducible (first | apply z1 | apply z2 | apply z3 | apply z4) <;> intro hq <;> (try simp only [zH] at hq) <;> (try (exfalso; omega)))))
end
end Go.Proofs.Ytgpabbbibmnnlaa
namespace Go.Proofs.Ytgpabbbibmnnlaa
set_option linter.unusedVariables false
set_option linter.unusedSimpArgs false
open Go.Den
noncomputable section
abbrev bsB (z s : BitVec 256) : List ABlk := [X (setC z) 44 0 true, X (setC s) 44 0 true]
theorem wehb {a b c d e : Value} {s : BitVec 256} : wm [a, b, c, d, e] 0 (setC s) = [wdV s 0, wdV s 1, wdV s 2, wdV s 3, e] := rfl
end
end Go.Proofs.Ytgpabbbibmnnlaa
namespace Go.Proofs.Ytgpabbbibmnnlaa
set_option linter.unusedVariables false
set_option linter.unusedSimpArgs false
open Go.Den
noncomputable section
abbrev mkB (ks ns : List Int) (ere : Bool) : List Value := [FL ks.length (ints ks), FL ns.length (ints ns), .bool ere, .pointer (some ⟨0, 0, none⟩), .pointer (some ⟨1, 0, none⟩), .pointer (some ⟨2, 0, none⟩)]
abbrev mkH (a g l : Int) : List ABlk := [X [.int .i64 a] 3 0 true, X [.int .i64 g] 3 0 true, X [.int .i64 l] 3 0 true]
end
end Go.Proofs.Ytgpabbbibmnnlaa
namespace Go.Proofs.Ytgpabbbibmnnlaa
set_option linter.unusedVariables false
set_option linter.unusedSimpArgs false
open Go.Den
noncomputable section
end
end Go.Proofs.Ytgpabbbibmnnlaa
namespace Go.Proofs.Ytgpabbbibmnnlaa
set_option linter.unusedVariables false
set_option linter.unusedSimpArgs false
open Go.Den
noncomputable section
theorem rx_lit0 {k n : Int} {s : BitVec 256} : rxC (.mk k 0 0 n s []) = [.int .i64 k, .int .i64 0, .int .i64 0, .int .i64 n, wdV s 0, wdV s 1, wdV s 2, wdV s 3, FL 0 []] := by rw [rxC, rxsC]; rfl
end
end Go.Proofs.Ytgpabbbibmnnlaa
namespace Go.Proofs.Ytgpabbbibmnnlaa
set_option linter.unusedVariables false
set_option linter.unusedSimpArgs false
open Go.Den
noncomputable section
end
end Go.Proofs.Ytgpabbbibmnnlaa
namespace Go.Proofs.Ytgpabbbibmnnlaa
set_option linter.unusedVariables false
set_option linter.unusedSimpArgs false
open Go.Den
noncomputable section
end
end Go.Proofs.Ytgpabbbibmnnlaa
namespace Go.Proofs.Ytgpabbbibmnnlaa
set_option linter.unusedVariables false
set_option linter.unusedSimpArgs false
open Go.Den
noncomputable section
end
end Go.Proofs.Ytgpabbbibmnnlaa
namespace Go.Proofs.Ytgpabbbibmnnlaa
set_option linter.unusedVariables false
set_option linter.unusedSimpArgs false
open Go.Den
noncomputable section
def rxK (t n : Nat) (c : List Value) : List Value := [.int .i64 2, .int .i64 0, .int .i64 0, .int .i64 0, .int .u64 0, .int .u64 0, .int .u64 0, .int .u64 0, FO t n c]
def PkOk (ks ns : List Int) (ere : Bool) (args : List Value) (M : Nat) : Prop :=
  ∀ (a : Nat) (g l : Int), a + M ≤ 100000 → 0 ≤ g → g ≤ 3 → -1000000 + 2 * (M : Int) ≤ l → l ≤ 1000 →
    ∃ (r : Rx) (a' : Nat) (g' l' : Int), ((lim Try.prog cfg (.call 95 (.agg ⟨mkB ks ns ere⟩ :: args)) (HP (mkH a g l)) = some (.val (.agg ⟨rxC r⟩), HP (mkH a' g' l')) ∧ r.kind ≠ 2) ∨
      ∃ rs : List Rx, r = .mk 2 0 0 0 0#256 rs ∧ 2 ≤ rs.length ∧ rs.length ≤ 3 ∧ lim Try.prog cfg (.call 95 (.agg ⟨mkB ks ns ere⟩ :: args)) (HP (mkH a g l)) = some (.val (.agg ⟨rxK 3 rs.length (rxsC rs)⟩), HP (mkH a' g' l' ++ [.tok rs.length 47 9])))
      ∧ wzc r ≤ M ∧ a' ≤ a + M ∧ 0 ≤ g' ∧ g' ≤ 3 ∧ l - 2 * (M : Int) ≤ l' ∧ l' ≤ l
end
end Go.Proofs.Ytgpabbbibmnnlaa
namespace Go.Proofs.Ytgpabbbibmnnlaa
set_option linter.unusedVariables false
set_option linter.unusedSimpArgs false
open Go.Den
noncomputable section
end
end Go.Proofs.Ytgpabbbibmnnlaa
namespace Go.Proofs.Ytgpabbbibmnnlaa
set_option linter.unusedVariables false
set_option linter.unusedSimpArgs false
open Go.Den
noncomputable section
end
end Go.Proofs.Ytgpabbbibmnnlaa
namespace Go.Proofs.Ytgpabbbibmnnlaa
set_option linter.unusedVariables false
set_option linter.unusedSimpArgs false
open Go.Den
noncomputable section
theorem PkOk.mono {ks ns : List Int} {ere : Bool} {args : List Value} {M N : Nat} (h : PkOk ks ns ere args M) (hMN : M ≤ N) : PkOk ks ns ere args N := by
  intro a g l ha hg hg3 hl hl2
  obtain ⟨r, a', g', l', e, b1, b2, b3, b4, b5, b6⟩ := h a g l (by omega) hg hg3 (by omega) hl2
  exact ⟨r, a', g', l', e, by omega, by omega, b3, b4, by omega, b6⟩
end
end Go.Proofs.Ytgpabbbibmnnlaa
namespace Go.Proofs.Ytgpabbbibmnnlaa
open Go.Den
noncomputable section
theorem wfhb (m : Mt) (s : List UInt8) : wtl m s [(-1, [35])] = [35] := rfl
theorem text_no (l : List Int) (n : Nat) : (wqtb l n).count 35 = 0 := by
  rw [List.count_eq_zero]
  intro h
  unfold wqtb at h
  obtain ⟨x, _, hx⟩ := List.mem_map.1 h
  have hw := wwx x
  have : ∀ k : Nat, k < 8 → UInt8.ofNat (tb k) ≠ 35 := by decide
  exact this (wgi x 0 7).toNat (by omega) hx
theorem weec (l : List Int) (n : Nat) : (wqtb l n).length ≤ n := by unfold wqtb; rw [List.length_map, List.length_take]; omega
end
end Go.Proofs.Ytgpabbbibmnnlaa
namespace Go.Proofs.Ytgpabbbibmnnlaa
open Go.Den
noncomputable section
def hitB (c : UInt8) : Bool := decide (c = 97) || decide (c = 98)
abbrev rxAB : Rx := .mk 1 0 0 0 (one 97 ||| one 98) []
def hitL : Nat → List UInt8 → List Nat
  | _, [] => []
  | a, c :: l => if hitB c = true then a :: hitL (a + 1) l else hitL (a + 1) l
def mtI (i : Nat) : Mt := (wbl.put 0 i).put 1 ((i : Int) + 1)
theorem mtI0 (i : Nat) : (mtI i).at 0 = i := wpdc
theorem mtI1 (i : Nat) : (mtI i).at 1 = (i : Int) + 1 := wqdc
theorem ab_bit (y : UInt8) : (one 97 ||| one 98).getLsbD y.toNat = hitB y := by
  have hy := y.toNat_lt
  rw [BitVec.getLsbD_or, wykb, wykb, decide_eq_true (show y.toNat < 256 by omega), Bool.true_and, Bool.true_and]
  unfold hitB
  have e : ∀ z : UInt8, decide (y.toNat = z.toNat) = decide (y = z) := fun z => by
    by_cases h : y = z
    · rw [decide_eq_true h, h]; exact decide_eq_true rfl
    · rw [decide_eq_false h, decide_eq_false (fun hh => h (UInt8.toNat_inj.1 hh))]
  rw [show decide (y.toNat = 97) = decide (y = 97) from e 97, show decide (y.toNat = 98) = decide (y = 98) from e 98]
theorem ab_ne : one 97 ||| one 98 ≠ 0#256 := by
  intro h
  have := ab_bit 97
  rw [h] at this
  simp [hitB] at this
theorem walk_ab (d g : Int) : wli rxAB d g = (true, g) := by
  have hb : wktb rxAB = true := rfl
  have hk : wsq rxAB = true := by
    show (decide ((0 : Int) = 0) && decide (one 97 ||| one 98 ≠ 0#256)) = true
    rw [decide_eq_true ab_ne]; rfl
  rw [wli, if_pos hb, if_pos hk, if_neg (by decide), if_neg (by decide), wkg]
theorem wfob : wpo rxAB = true := by rw [wpo, walk_ab]; rfl
theorem wgob : wzc rxAB ≤ 1000000 := by rw [wzc, wwc]; omega
theorem ways_ab (s : List UInt8) (bol : Bool) (x : St) : wcf s bol rxAB x = if x.1 < s.length ∧ hitB (s.getD x.1.toNat 0) = true then [(x.1 + 1, x.2)] else [] := by
  rw [wcf, if_pos rfl]
  simp only [ab_bit]
theorem whob (s : List UInt8) (a : Nat) (h : a < s.length) : s.drop a = s.getD a 0 :: s.drop (a + 1) := by
  rw [List.drop_eq_getElem_cons h, List.getD_eq_getElem?_getD, List.getElem?_eq_getElem h]; rfl
theorem first_ab (s : List UInt8) : ∀ (k a : Nat), a + k = s.length + 1 →
    (wsl rxAB s k a = none ∧ hitL a (s.drop a) = []) ∨ ∃ i : Nat, a ≤ i ∧ i < s.length ∧ wsl rxAB s k a = some (mtI i) ∧ hitL a (s.drop a) = i :: hitL (i + 1) (s.drop (i + 1)) := by
  intro k
  induction k with
  | zero => intro a h; exact .inl ⟨rfl, by rw [List.drop_of_length_le (by omega)]; rfl⟩
  | succ k ih =>
    intro a ha
    have hw : wlk rxAB s true a = if a < s.length ∧ hitB (s.getD a 0) = true then [((a : Int) + 1, wbl)] else [] := by
      unfold wlk
      rw [if_pos ⟨wfob, by omega, by omega⟩, ways_ab]
      by_cases h : a < s.length ∧ hitB (s.getD a 0) = true
      · rw [if_pos h, if_pos ⟨by show (a : Int) < _; omega, h.2⟩]
      · rw [if_neg h, if_neg (fun hh => h ⟨by have h1 : (a : Int) < s.length := hh.1; omega, hh.2⟩)]
    rw [wsl, hw]
    have h2 := ih (a + 1) (by omega)
    rw [show ((a + 1 : Nat) : Int) = (a : Int) + 1 from rfl] at h2
    by_cases hl : a < s.length
    · rw [whob s a hl, hitL]
      by_cases hb : hitB (s.getD a 0) = true
      · rw [if_pos ⟨hl, hb⟩, if_pos hb]
        exact .inr ⟨a, Nat.le_refl _, hl, rfl, rfl⟩
      · rw [if_neg (fun h => hb h.2), if_neg hb]
        simp only [wqo]
        rcases h2 with h2 | ⟨i, h3, h4, h5, h6⟩
        · exact .inl h2
        · exact .inr ⟨i, by omega, h4, h5, h6⟩
    · rw [if_neg (fun h => hl h.1)]
      simp only [wqo]
      rw [List.drop_of_length_le (show s.length ≤ a + 1 by omega)] at h2
      rw [List.drop_of_length_le (show s.length ≤ a by omega)]
      rcases h2 with h2 | ⟨i, h3, h4, h5, h6⟩
      · exact .inl ⟨h2.1, rfl⟩
      · omega
theorem all_ab (s : List UInt8) : ∀ (k a : Nat) (last : Int) (out : List Mt), s.length + 1 ≤ a + k →
    (alF rxAB s k a last out).2 = out ++ (hitL a (s.drop a)).map mtI := by
  intro k
  induction k with
  | zero => intro a last out ha; rw [alF, List.drop_of_length_le (by omega)]; simp [hitL]
  | succ k ih =>
    intro a last out ha
    rw [alF]
    by_cases hq : a ≤ s.length
    · rw [if_pos (by omega), wxh, if_pos ⟨wfob, by omega, by omega⟩, show ((s.length : Int) + 1 - a).toNat = s.length + 1 - a by omega]
      rcases first_ab s (s.length + 1 - a) a (by omega) with ⟨h1, h2⟩ | ⟨i, h1, h2, h3, h4⟩
      · rw [h1, h2]; simp
      · rw [h3, h4]
        simp only []
        rw [mtI0, mtI1, if_neg (by omega)]
        have := ih (i + 1) ((i : Int) + 1) (out ++ [mtI i]) (by omega)
        rw [show ((i + 1 : Nat) : Int) = (i : Int) + 1 from rfl] at this
        rw [this, List.map_cons, List.append_assoc]; rfl
    · rw [if_neg (by omega), List.drop_of_length_le (by omega)]; simp [hitL]
theorem wslb (s : List UInt8) : allR rxAB s = (hitL 0 s).map mtI := by
  unfold allR
  have := all_ab s (s.length + 1) 0 (-1) [] (by omega)
  rwa [List.nil_append, List.drop_zero] at this
def hits (s : List UInt8) : Nat := s.countP hitB
theorem wiob : ∀ (s : List UInt8) (a : Nat), (hitL a s).length = hits s := by
  intro s
  induction s with
  | nil => intro a; rfl
  | cons c l ih =>
    intro a
    unfold hits at ih ⊢
    rw [hitL, List.countP_cons]
    by_cases h : hitB c = true
    · rw [if_pos h, if_pos h, List.length_cons, ih]
    · rw [if_neg h, if_neg h, ih]; rfl
def subN : Nat → Bool → List UInt8 → List UInt8
  | _, _, [] => []
  | 0, g, c :: l => if hitB c = true then 35 :: (if g = true then subN 0 true l else l) else c :: subN 0 g l
  | n + 1, g, c :: l => if hitB c = true then c :: subN n g l else c :: subN (n + 1) g l
theorem wwj {n : Nat} {g : Bool} : subN n g [] = [] := by cases n <;> rfl
theorem wxx {g : Bool} {c : UInt8} {l : List UInt8} (h : hitB c = true) : subN 0 g (c :: l) = 35 :: (if g = true then subN 0 true l else l) := by
  show (if hitB c = true then _ else _) = _
  rw [if_pos h]
theorem wts {n : Nat} {g : Bool} {c : UInt8} {l : List UInt8} (h : hitB c = true) : subN (n + 1) g (c :: l) = c :: subN n g l := by
  show (if hitB c = true then _ else _) = _
  rw [if_pos h]
theorem wzm {n : Nat} {g : Bool} {c : UInt8} {l : List UInt8} (h : ¬ hitB c = true) : subN n g (c :: l) = c :: subN n g l := by
  cases n with
  | zero => show (if hitB c = true then _ else _) = _; rw [if_neg h]
  | succ n => show (if hitB c = true then _ else _) = _; rw [if_neg h]
theorem wgdb : ∀ (l : List UInt8) (n : Nat) (g : Bool), (subN n g l).length = l.length := by
  intro l
  induction l with
  | nil => intro n g; rw [wwj]
  | cons c l ih =>
    intro n g
    by_cases h : hitB c = true
    · cases n with
      | zero =>
        rw [wxx h, List.length_cons, List.length_cons]
        split
        · rw [ih]
        · rfl
      | succ n => rw [wts h, List.length_cons, List.length_cons, ih]
    · rw [wzm h, List.length_cons, List.length_cons, ih]
theorem take_one (s : List UInt8) {a p : Nat} (h : p ≤ a) {c : UInt8} {l : List UInt8} (hd : s.drop a = c :: l) : (s.take (a + 1)).drop p = (s.take a).drop p ++ [c] := by
  have hl : a < s.length := by
    have := congrArg List.length hd
    rw [List.length_drop, List.length_cons] at this; omega
  have hc : s[a]? = some c := by
    have : (s.drop a)[0]? = some c := by rw [hd]; rfl
    rwa [List.getElem?_drop] at this
  rw [List.take_add_one, hc, List.drop_append_of_le_length (by rw [List.length_take]; omega)]
  rfl
theorem subst_ab (s : List UInt8) : ∀ (l : List UInt8) (a p n : Nat), p ≤ a → s.drop a = l →
    wcl [(-1, [35])] s p (((hitL a l).drop n).map mtI) = (s.take a).drop p ++ subN n true l ∧
    wcl [(-1, [35])] s p ((((hitL a l).drop n).take 1).map mtI) = (s.take a).drop p ++ subN n false l := by
  intro l
  induction l with
  | nil =>
    intro a p n hp hd
    have hl : s.length ≤ a := by
      have := congrArg List.length hd
      rw [List.length_drop, List.length_nil] at this; omega
    rw [hitL, List.drop_nil, List.take_nil, List.map_nil, wcl, wwj, wwj, List.append_nil, List.take_of_length_le hl, Int.toNat_natCast]
    exact ⟨rfl, rfl⟩
  | cons c l ih =>
    intro a p n hp hd
    have hd1 : s.drop (a + 1) = l := by
      rw [show a + 1 = a + 1 from rfl, ← List.drop_drop, hd]; rfl
    have ht := take_one s hp hd
    rw [hitL]
    by_cases h : hitB c = true
    · rw [if_pos h]
      cases n with
      | zero =>
        rw [List.drop_zero, List.map_cons, wcl, wfhb, mtI0, mtI1, Int.toNat_natCast, Int.toNat_natCast]
        have h1 := (ih (a + 1) (a + 1) 0 (Nat.le_refl _) hd1).1
        rw [List.drop_zero, show ((a + 1 : Nat) : Int) = (a : Int) + 1 from rfl] at h1
        rw [show ((a :: hitL (a + 1) l).take 1).map mtI = [mtI a] from rfl, wcl, wcl, wfhb, mtI0, mtI1, Int.toNat_natCast, Int.toNat_natCast, h1]
        rw [show ((a : Int) + 1).toNat = a + 1 by omega, hd1, List.drop_of_length_le (show (s.take (a + 1)).length ≤ a + 1 by rw [List.length_take]; omega), List.nil_append]
        rw [wxx h, wxx h, if_pos rfl, if_neg (by simp)]
        exact ⟨rfl, rfl⟩
      | succ n =>
        rw [List.drop_succ_cons, (ih (a + 1) p n (by omega) hd1).1, (ih (a + 1) p n (by omega) hd1).2, ht, wts h, wts h]
        simp only [List.append_assoc, List.singleton_append]
        exact ⟨trivial, trivial⟩
    · rw [if_neg h, (ih (a + 1) p n (by omega) hd1).1, (ih (a + 1) p n (by omega) hd1).2, ht, wzm h, wzm h]
      simp only [List.append_assoc, List.singleton_append]
      exact ⟨trivial, trivial⟩
theorem subR_ab (s : List UInt8) (hs : s.length ≤ 12) (n : Nat) (g : Bool) : subR rxAB [(-1, [35])] s n g = if hits s ≤ n then (s, false) else (subN n g s, true) := by
  have hl : (allR rxAB s).length = hits s := by rw [wslb, List.length_map, wiob]
  have hq : wcl [(-1, [35])] s 0 (askF rxAB s n g) = subN n g s := by
    have h := subst_ab s s 0 0 n (Nat.le_refl _) (List.drop_zero)
    rw [show ((0 : Nat) : Int) = 0 from rfl] at h
    unfold askF
    rw [wslb, List.take_zero, List.drop_nil, List.nil_append, List.nil_append] at *
    cases g with
    | true => rw [if_pos rfl, ← List.map_drop]; exact h.1
    | false => rw [if_neg (by simp), ← List.map_drop, ← List.map_take]; exact h.2
  unfold subR
  rw [hl, hq, if_neg (show ¬ 400 < (subN n g s).length by rw [wgdb]; omega)]
theorem wjob : ∀ (l : List UInt8) (n : Nat) (g : Bool), hits l ≤ n → subN n g l = l := by
  intro l
  induction l with
  | nil => intro n g _; exact wwj
  | cons c l ih =>
    intro n g h
    unfold hits at h ih
    rw [List.countP_cons] at h
    by_cases hc : hitB c = true
    · rw [if_pos hc] at h
      cases n with
      | zero => omega
      | succ n => rw [wts hc, ih n g (by omega)]
    · rw [if_neg hc] at h
      rw [wzm hc, ih n g (by omega)]
theorem wfec : ∀ (l : List UInt8) (n : Nat), hits (subN n true l) = min n (hits l) := by
  intro l
  induction l with
  | nil => intro n; rw [wwj]; unfold hits; rw [List.countP_nil]; omega
  | cons c l ih =>
    intro n
    have h35 : ¬ hitB 35 = true := by decide
    unfold hits at ih ⊢
    rw [List.countP_cons]
    by_cases hc : hitB c = true
    · rw [if_pos hc]
      cases n with
      | zero => rw [wxx hc, if_pos rfl, List.countP_cons, if_neg h35, ih]; omega
      | succ n => rw [wts hc, List.countP_cons, if_pos hc, ih]; omega
    · rw [if_neg hc, wzm hc, List.countP_cons, if_neg hc, ih]; omega
theorem wgec : ∀ (l : List UInt8) (n : Nat), subN n false (subN (n + 1) true l) = subN n true l := by
  intro l
  induction l with
  | nil => intro n; rw [wwj, wwj, wwj]
  | cons c l ih =>
    intro n
    by_cases hc : hitB c = true
    · rw [wts hc]
      cases n with
      | zero => rw [wxx hc, wxx hc]; rfl
      | succ n => rw [wts hc, wts hc, ih n]
    · rw [wzm hc, wzm hc, wzm hc, ih]
theorem wrtb : ∀ (l : List UInt8) (n : Nat), l.count 35 = 0 → (subN n true l).count 35 = hits l - n := by
  intro l
  induction l with
  | nil => intro n _; rw [wwj]; unfold hits; rw [List.countP_nil, List.count_nil]; omega
  | cons c l ih =>
    intro n h
    rw [List.count_cons] at h
    have h0 : l.count 35 = 0 := by omega
    have hc35 : (c == 35) = false := by
      cases hq : c == 35 with
      | false => rfl
      | true => rw [hq, if_pos rfl] at h; omega
    unfold hits at ih ⊢
    rw [List.countP_cons]
    by_cases hc : hitB c = true
    · rw [if_pos hc]
      cases n with
      | zero => rw [wxx hc, if_pos rfl, List.count_cons, ih 0 h0, if_pos (by rfl)]; omega
      | succ n => rw [wts hc, List.count_cons, ih n h0, hc35, if_neg (by simp)]; omega
    · rw [if_neg hc, wzm hc, List.count_cons, ih n h0, hc35, if_neg (by simp)]; omega
end
end Go.Proofs.Ytgpabbbibmnnlaa
namespace Go.Proofs.Ytgpabbbibmnnlaa
set_option linter.unusedVariables false
set_option linter.unusedSimpArgs false
open Go.Den
noncomputable section
end
end Go.Proofs.Ytgpabbbibmnnlaa
namespace Go.Proofs.Ytgpabbbibmnnlaa
set_option linter.unusedVariables false
set_option linter.unusedSimpArgs false
open Go.Den
noncomputable section
theorem of2_end (x y : Nat) (z s : BitVec 256) :
    lim Try.prog cfg (.loop 39 0 (wzj 0) (SE (EJ 23 G0) [(8, .int .i64 2), (7, .int .i64 2), (6, FL 2 [.int .u8 x, .int .u8 y]), (3, .pointer (some ⟨1, 0, none⟩)), (2, .pointer (some ⟨0, 0, none⟩))])) (HP (bsB z s)) = some (.code (.exit 0) (SE (EJ 23 G0) [(3, .pointer (some ⟨1, 0, none⟩)), (2, .pointer (some ⟨0, 0, none⟩))]), HP (bsB z s)) := by
  refine wbb wlo ?_
  unfold wko
  (repeat' (first | (simp -implicitDefEqProofs (maxSteps := 2000000) (disch := first | with_reducible assumption | omega | (simp only [zS, zA, seval, wcu, zD] <;> omega) | fail) only [zS, argl, insA, Go.Den.wm, wo, wu, looks, wcb, wab, idOf, riA, seval, Go.Den.wh, kK, woo, *, zT]) | (with_reducible (first | apply z1 | apply z2 | apply z3 | apply z4) <;> intro hq <;> (try simp only [zH] at hq) <;> (try (exfalso; omega)))))
theorem wkob (x y : Nat) (i : Nat) (v : Nat) (hi : i < 2) (hv : ([.int .u8 x, .int .u8 y] : List Value)[i]? = some (.int .u8 v)) (hx : v < 256) (z s : BitVec 256) (o : Out × AH)
    (h : lim Try.prog cfg (.loop 39 0 (wzj 0) (SE (EJ 23 G0) [(8, .int .i64 ((i : Int) + 1)), (7, .int .i64 2), (6, FL 2 [.int .u8 x, .int .u8 y]), (3, .pointer (some ⟨1, 0, none⟩)), (2, .pointer (some ⟨0, 0, none⟩))])) (HP (bsB z (s ||| one v))) = some o) :
    lim Try.prog cfg (.loop 39 0 (wzj 0) (SE (EJ 23 G0) [(8, .int .i64 i), (7, .int .i64 2), (6, FL 2 [.int .u8 x, .int .u8 y]), (3, .pointer (some ⟨1, 0, none⟩)), (2, .pointer (some ⟨0, 0, none⟩))])) (HP (bsB z s)) = some o := by
  rw [← or_one s v hx] at h
  refine wbb wlo ?_
  unfold wko
  have h1 : BitVec.ofInt (IntKind.bits .u64) 1 = BitVec.ofInt (IntKind.bits .u64) (((1#64).toNat : Nat) : Int) := rfl
  have e1 : ((v : Int) / 64).toNat = v / 64 := by omega
  have e2 : ((v : Int) % 64).toNat = v % 64 := by omega
  have hs : IntKind.wrap .u64 (1 * 2 ^ (min (v % 64) (IntKind.bits .u64))) = ((1#64 <<< (v % 64)).toNat : Nat) := by
    have := shl_u64 (b := ((v % 64 : Nat) : Int)) (by omega) (by omega)
    rwa [Int.toNat_natCast] at this
  have ho := or_u64 (wd s (v / 64)) (1#64 <<< (v % 64))
  have hset := setC_set s (show v / 64 < 4 by omega) (wd s (v / 64) ||| (1#64 <<< (v % 64)))
  (repeat' (first | (simp -implicitDefEqProofs (maxSteps := 2000000) (disch := first | with_reducible assumption | omega | (simp only [zS, zA, seval, wcu, zD] <;> omega) | fail) only [zS, argl, insA, Go.Den.wm, wo, wu, looks, wcb, wab, idOf, riA, seval, Go.Den.wh, kK, woo, wjnb, wjx, *, zT]) | (with_reducible (first | apply z1 | apply z2 | apply z3 | apply z4) <;> intro hq <;> (try simp only [zH] at hq) <;> (try (exfalso; omega)))))
  all_goals exact h
theorem ev_Of2 (x y : Nat) (hx : x < 256) (hy : y < 256) : lim Try.prog cfg (.call 39 [FL 2 [.int .u8 x, .int .u8 y]]) (HP []) = some (.val (.agg ⟨setC (one x ||| one y)⟩), HP []) := by
  have h := wkob x y 0 x (by omega) rfl hx 0#256 0#256 _ (wkob x y 1 y (by omega) rfl hy 0#256 (0#256 ||| one x) _ (of2_end x y 0#256 _))
  rw [show (0#256 ||| one x) = one x by simp] at h
  unfold bsB at h
  rw [show setC 0#256 = [.int .u64 0, .int .u64 0, .int .u64 0, .int .u64 0] from rfl, show ((0 : Nat) : Int) = 0 from rfl] at h
  refine wnb hc wqcb (Nat.le_of_ble_eq_true rfl) (Nat.le_of_ble_eq_true rfl) ?_
  unfold wdab
  (repeat' (first | (simp -implicitDefEqProofs (maxSteps := 2000000) (disch := first | with_reducible assumption | omega | (simp only [zS, zA, seval, wcu, zD] <;> omega) | fail) only [zS, argl, insA, Go.Den.wm, wo, wu, looks, wcb, wab, idOf, riA, seval, Go.Den.wh, kK, woo, *, zT]) | (with_reducible (first | apply z1 | apply z2 | apply z3 | apply z4) <;> intro hq <;> (try simp only [zH] at hq) <;> (try (exfalso; omega)))))
abbrev rxM (S : BitVec 256) : List Value := [.int .i64 1, .int .i64 0, .int .i64 0, .int .i64 0, wdV S 0, wdV S 1, wdV S 2, wdV S 3, .slice none 0 0]
abbrev rxF0 (S : BitVec 256) : List Value := [.int .i64 1, .int .i64 0, .int .i64 0, .int .i64 0, wdV S 0, wdV S 1, wdV S 2, wdV S 3, FL 0 []]
theorem wlob : rxC rxAB = rxF0 (one 97 ||| one 98) := rx_lit0
abbrev tnP : Value := .slice (some ⟨1, 0, none⟩) 1 2
abbrev tnH : List ABlk := [X (rxM (one 97 ||| one 98)) 47 0 false, X [.int .i64 (-1), str [35]] 73 0 true]
theorem wuo (s : List UInt8) (hs : s.length ≤ 12) (nth : Int) (N : Nat) (hN : max nth 1 - 1 = (N : Int)) (hN2 : N ≤ 1000) (g : Bool) :
    lim Try.prog cfg (.call 40 [.agg ⟨rxF0 (one 97 ||| one 98)⟩, FL 1 [.int .i64 (-1), str [35]], str s, .int .i64 nth, .bool g]) (HP []) = some (.val (.tuple ⟨[str (subN N g s), .bool (decide (N < hits s))]⟩), HP []) := by
  have h := wbec rxAB wgob s hs [(-1, [35])] (by simp) (by simp) nth N hN hN2 g
  rw [wlob, show ([(-1, [35])] : List Pc).length = 1 from rfl, show pcsC [(-1, [35])] = [.int .i64 (-1), str [35]] from rfl, subR_ab s hs] at h
  by_cases hq : hits s ≤ N
  · rw [if_pos hq] at h
    rw [wjob s N g hq, decide_eq_false (by omega)]
    exact h
  · rw [if_neg hq] at h
    rw [decide_eq_true (by omega)]
    exact h
theorem ej127 : (EJ 127 G0).get 4 = JK := rfl
set_option maxHeartbeats 2000000 in
theorem tn_loop (s all : List UInt8) (hs : s.length ≤ 12) (k n : Int) : ∀ i : Nat, i ≤ hits s →
    lim Try.prog cfg (.loop 8 0 (wsc 0) (SE (EJ 127 G0) [(12, .int .i64 i), (11, str (subN i true s)), (10, .int .i64 k), (8, str all), (7, tnP), (6, .pointer (some ⟨0, 0, none⟩)), (5, str s), (1, .int .i64 n)])) (HP tnH) = some (.code (.exit 0) (SE (EJ 127 G0) [(11, str (subN 0 true s)), (10, .int .i64 k), (8, str all), (7, tnP), (6, .pointer (some ⟨0, 0, none⟩)), (5, str s), (4, JK), (1, .int .i64 n)]), HP tnH) := by
  intro i
  induction i with
  | zero =>
    intro _
    generalize subN 0 true s = one
    refine wbb wuh ?_
    unfold wig
    (repeat' (first | (simp -implicitDefEqProofs (maxSteps := 2000000) (disch := first | with_reducible assumption | omega | (simp only [zS, zA, seval, wdb, wib, zD] <;> omega) | fail) only [zS, argl, insA, Go.Den.wm, wo, wu, looks, wcb, wab, idOf, riA, seval, Go.Den.wh, kK, wue, wac, wmc, wdb, wib, ej127, *, zT]) | (with_reducible (first | apply z1 | apply z2 | apply z3 | apply z4) <;> intro hq <;> (try simp only [zH] at hq) <;> (try (exfalso; omega)))))
  | succ i ih =>
    intro hi
    have h := ih (by omega)
    have hl := wgdb s (i + 1) true
    have hv := wuo (subN (i + 1) true s) (by omega) ((i : Int) + 1) i (by omega) (by have := List.countP_le_length (p := hitB) (l := s); unfold hits at hi; omega) false
    rw [wgec, decide_eq_true (by rw [wfec]; omega)] at hv
    have e1 : ((i + 1 : Nat) : Int) = (i : Int) + 1 := rfl
    rw [e1]
    clear e1
    have e2 : (i : Int) + 1 - 1 = i := by omega
    have hi12 : i ≤ 12 := by have := List.countP_le_length (p := hitB) (l := s); unfold hits at hi; omega
    generalize subN (i + 1) true s = one at *
    generalize subN i true s = two at *
    generalize subN 0 true s = fin at *
    clear ih hi
    refine wbb wuh ?_
    unfold wig
    (repeat' (first | (simp -implicitDefEqProofs (maxSteps := 2000000) (disch := first | with_reducible assumption | omega | (simp only [zS, zA, seval, wdb, wib, zD] <;> omega) | fail) only [zS, argl, insA, Go.Den.wm, wo, wu, looks, wcb, wab, idOf, riA, seval, Go.Den.wh, kK, wue, wac, wmc, wdb, wib, ej127, *, zT]) | (with_reducible (first | apply z1 | apply z2 | apply z3 | apply z4) <;> intro hq <;> (try simp only [zH] at hq) <;> (try (exfalso; omega)))))
    all_goals exact h
set_option maxHeartbeats 2000000 in
theorem tn_marks (s all one x16 : List UInt8) (k m : Int) (ok : Bool) (hl : x16.length ≤ 1000) : ∀ (j i c : Nat), i + j = x16.length → c ≤ i →
    lim Try.prog cfg (.loop 8 0 (wsc 1) (SE (EJ 127 G0) [(71, .int .i64 i), (70, .int .i64 x16.length), (18, .int .i64 c), (17, .bool ok), (16, str x16), (15, .int .i64 m), (11, str one), (10, .int .i64 k), (8, str all), (7, tnP), (6, .pointer (some ⟨0, 0, none⟩)), (5, str s)])) (HP tnH)
      = some (.code (.exit 2) (SE (EJ 127 G0) [(18, .int .i64 (c + (x16.drop i).count 35 : Nat)), (17, .bool ok), (15, .int .i64 m), (11, str one), (10, .int .i64 k), (8, str all), (7, tnP), (6, .pointer (some ⟨0, 0, none⟩)), (5, str s)]), HP tnH) := by
  intro j
  induction j with
  | zero =>
    intro i c hi hc
    rw [List.drop_of_length_le (by omega), List.count_nil, Nat.add_zero]
    refine wbb wef ?_
    unfold wte
    (repeat' (first | (simp -implicitDefEqProofs (maxSteps := 2000000) (disch := first | with_reducible assumption | omega | (simp only [zS, zA, seval, zD] <;> omega) | fail) only [zS, argl, insA, Go.Den.wm, wo, wu, looks, wcb, wab, idOf, riA, seval, Go.Den.wh, kK, wod, wac, wmc, *, zT]) | (with_reducible (first | apply z1 | apply z2 | apply z3 | apply z4) <;> intro hq <;> (try simp only [zH] at hq) <;> (try (exfalso; omega)))))
  | succ j ih =>
    intro i c hi hc
    have hlt : i < x16.length := by omega
    have hd : x16.drop i = x16.getD i 0 :: x16.drop (i + 1) := whob x16 i hlt
    rw [hd, List.count_cons]
    by_cases hq : x16.getD i 0 = 35
    · have h := ih (i + 1) (c + 1) (by omega) (by omega)
      rw [if_pos (by rw [hq]; rfl), show c + ((x16.drop (i + 1)).count 35 + 1) = c + 1 + (x16.drop (i + 1)).count 35 by omega]
      generalize c + 1 + (x16.drop (i + 1)).count 35 = C at h ⊢
      have hn : ((x16.getD i 0).toNat : Int) = 35 := by rw [hq]; rfl
      clear ih hd hq
      refine wbb wef ?_
      unfold wte
      (repeat' (first | (simp -implicitDefEqProofs (maxSteps := 2000000) (disch := first | with_reducible assumption | omega | (simp only [zS, zA, seval, zD] <;> omega) | fail) only [zS, argl, insA, Go.Den.wm, wo, wu, looks, wcb, wab, idOf, riA, seval, Go.Den.wh, kK, wod, wac, wmc, *, zT]) | (with_reducible (first | apply z1 | apply z2 | apply z3 | apply z4) <;> intro hq <;> (try simp only [zH] at hq) <;> (try (exfalso; omega)))))
      all_goals exact h
    · have h := ih (i + 1) c (by omega) (by omega)
      rw [if_neg (by simpa using hq), Nat.add_zero]
      generalize c + (x16.drop (i + 1)).count 35 = C at h ⊢
      have hn : ¬ ((x16.getD i 0).toNat : Int) = 35 := by
        intro he
        apply hq
        apply UInt8.toNat_inj.1
        show _ = 35
        omega
      clear ih hd hq
      refine wbb wef ?_
      unfold wte
      (repeat' (first | (simp -implicitDefEqProofs (maxSteps := 2000000) (disch := first | with_reducible assumption | omega | (simp only [zS, zA, seval, zD] <;> omega) | fail) only [zS, argl, insA, Go.Den.wm, wo, wu, looks, wcb, wab, idOf, riA, seval, Go.Den.wh, kK, wod, wac, wmc, *, zT]) | (with_reducible (first | apply z1 | apply z2 | apply z3 | apply z4) <;> intro hq <;> (try simp only [zH] at hq) <;> (try (exfalso; omega)))))
      all_goals exact h
theorem within12 (n : Int) : 1 ≤ wgi n 1 12 ∧ wgi n 1 12 ≤ 12 := by
  unfold wgi
  have := Int.emod_nonneg n (show (12 : Int) ≠ 0 by omega)
  have h5 := Int.emod_lt_of_pos n (show (0 : Int) < 12 by omega)
  rw [show (12 : Int) - 1 + 1 = 12 from rfl, Int.tmod_eq_emod]
  repeat' split
  all_goals omega
set_option maxRecDepth 100000 in
set_option maxHeartbeats 8000000 in
theorem whec (text : List Int) (n : Int) : lim Try.prog cfg (.call 8 [FL text.length (ints text), .int .i64 n]) (HP []) = some (.val (.bool true), HP []) := by
  have h1 := ev_Text text 10 (by omega)
  have hs := weec text 10
  have hno := text_no text 10
  generalize wqtb text 10 = s at *
  rw [show ((10 : Nat) : Int) = 10 from rfl] at h1
  have ho := ev_Of2 97 98 (by omega) (by omega)
  rw [show ((97 : Nat) : Int) = 97 from rfl, show ((98 : Nat) : Int) = 98 from rfl] at ho
  have ha := ev_All rxAB wgob s (by omega)
  have hal : (allR rxAB s).length = hits s := by rw [wslb, List.length_map, wiob]
  have hh : hits s ≤ 12 := by have := List.countP_le_length (p := hitB) (l := s); unfold hits; omega
  rw [hal, wlob] at ha
  have hw := wpgb n 1 12 (by omega) (by omega) (by omega)
  have hwi := within12 n
  generalize wgi n 1 12 = m at *
  have v0 := wuo s (by omega) 0 0 rfl (by omega) true
  have v1 := wuo s (by omega) m (m.toNat - 1) (by omega) (by omega) true
  have v2 := wuo s (by omega) 1 0 rfl (by omega) false
  have v3 := wuo s (by omega) 0 0 rfl (by omega) false
  have hl := tn_loop s (subN 0 true s) (by omega) (hits s) n (hits s) (Nat.le_refl _)
  rw [wjob s (hits s) true (Nat.le_refl _)] at hl
  have hmk := wrtb s (m.toNat - 1) hno
  have hlen := wgdb s (m.toNat - 1) true
  generalize subN (m.toNat - 1) true s = from' at *
  generalize subN 0 true s = all at *
  generalize subN 0 false s = fst at *
  have hm := tn_marks s all all from' (hits s) m (decide (m.toNat - 1 < hits s)) (by omega) from'.length 0 0 (by omega) (by omega)
  rw [List.drop_zero, hmk, Nat.zero_add, show ((0 : Nat) : Int) = 0 from rfl, hlen] at hm
  generalize hits s = k at *
  generalize allR rxAB s = A at *
  have hmm : max ((k : Int) - m + 1) 0 = ((k - (m.toNat - 1) : Nat) : Int) := by omega
  generalize (k - (m.toNat - 1) : Nat) = c at *
  have hb0 : (decide (0 < k) == decide (0 < k)) = true := by cases decide (0 < k) <;> rfl
  generalize decide (0 < k) = b0 at *
  clear hno hal hmk
  by_cases hq : m ≤ k
  · have b1 : (true == true) = true := rfl
    have e1 : decide (m.toNat - 1 < k) = true := decide_eq_true (by omega)
    rw [e1] at v1 hm
    clear e1
    obtain ⟨m1, m2⟩ := hwi
    refine wnb hc wpi (Nat.le_of_ble_eq_true rfl) (Nat.le_of_ble_eq_true rfl) ?_
    unfold wmh
    (repeat' (first | (simp -implicitDefEqProofs (maxSteps := 2000000) (disch := first | with_reducible assumption | omega | (simp only [zS, zA, seval, wgf, wcu, wdb, wib, zD] <;> omega) | fail) only [zS, argl, insA, Go.Den.wm, wo, wu, looks, wcb, wab, idOf, riA, seval, Go.Den.wh, kK, wue, wod, wac, wmc, whh, wehb, wdb, wib, *, zT]) | (with_reducible (first | apply z1 | apply z2 | apply z3 | apply z4) <;> intro hq <;> (try simp only [zH] at hq) <;> (try (exfalso; omega)))))
  · have b1 : (false == false) = true := rfl
    have e1 : decide (m.toNat - 1 < k) = false := decide_eq_false (by omega)
    rw [e1] at v1 hm
    clear e1
    obtain ⟨m1, m2⟩ := hwi
    refine wnb hc wpi (Nat.le_of_ble_eq_true rfl) (Nat.le_of_ble_eq_true rfl) ?_
    unfold wmh
    (repeat' (first | (simp -implicitDefEqProofs (maxSteps := 2000000) (disch := first | with_reducible assumption | omega | (simp only [zS, zA, seval, wgf, wcu, wdb, wib, zD] <;> omega) | fail) only [zS, argl, insA, Go.Den.wm, wo, wu, looks, wcb, wab, idOf, riA, seval, Go.Den.wh, kK, wue, wod, wac, wmc, whh, wehb, wdb, wib, *, zT]) | (with_reducible (first | apply z1 | apply z2 | apply z3 | apply z4) <;> intro hq <;> (try simp only [zH] at hq) <;> (try (exfalso; omega)))))
end
end Go.Proofs.Ytgpabbbibmnnlaa
namespace Go.Den
noncomputable section
open Go.ChangeShapes Go.WideShapes Go.RowKit
variable {P : Program} {cfg : Cfg} {H : Type} {enc : TypeId × Value → H}
theorem known_ev (wei : wsh P cfg.glob cfg.know) (hm : P.follows .mixedOrders = true) {f : FuncId} {a : List Value} {v : Value} (h : Ev P cfg (.call f a) AH0 (.val v, AH0)) (ha : wrb a = true) (hv : wpd v = true) : wdm P cfg.glob f a v := by
  obtain ⟨n, h⟩ := h
  exact wzt wei hm (h n (Nat.le_refl n)) ha hv
def renW (w : World) : Ren := ⟨fun _ _ => none, fun b i => w.cell? ⟨b, i, none⟩⟩
theorem wiec (wei : wsh P cfg.glob cfg.know) (hm : P.follows .mixedOrders = true) (hg : cfg.glob = fun _ => none) {f : FuncId} {a : List Value} (h : Ev P cfg (.call f a) AH0 (.val (.bool true), AH0)) (ha : wrb a = true) (w : World) (args' : Array Value) (hA : VRL (renW w) a args'.toList) :
    Calls P f args' w fun e w' => e = .returned (.bool true) ∧ w.heap.size ≤ w'.heap.size ∧ (∀ b : Nat, b < w.heap.size → w'.heap[b]? = w.heap[b]?) ∧ w'.os = w.os ∧ w'.output = w.output := by
  refine (known_ev wei hm h ha rfl (renW w) w args' (fun _ _ _ h => h) (by rw [hg]; exact gok_none _) hA).mono ?_
  rintro e w' ⟨ρ', v', rfl, h1, _, _, _, _, h5, h2, h3, h4⟩
  rw [h1.bool_inv]
  exact ⟨rfl, h5, h2, h3, h4⟩
theorem same_at {W W' : World} (hb : ∀ b : Nat, b < W.heap.size → W'.heap[b]? = W.heap[b]?) {p : MemPlace} (hp : p.block < W.heap.size) : W.sameAt W' p := by
  cases p with
  | cell b o => exact World.cell?_of_block (w := W) (hb b hp)
  | map b => exact hb b hp
theorem whdb (hl : laidOutB P = true) {W W' : World} (hb : ∀ b : Nat, b < W.heap.size → W'.heap[b]? = W.heap[b]?) {sp : Nat → Bool} : ∀ (ts : List TypeId) (vs : List Value) (ds : List (DataW H)) (ps : List MemPlace), (ts.all fun t => P.readableRec t && decide (t < P.types.size)) = true →
    DataW.TrodAll enc P W 0 (fun _ => true) true ts vs ds ps → (∀ p ∈ ps, p.block < W.heap.size) → (∀ p ∈ ps, sp p.block = true) → DataW.TrodAll enc P W' 0 sp true ts vs ds ps := by
  intro ts
  induction ts with
  | nil =>
    intro vs ds ps _ h _ _
    obtain ⟨rfl, rfl, rfl⟩ := trodAll_nil h
    exact trodAll_mk0
  | cons t ts ih =>
    intro vs ds ps ht h hlt hs
    obtain ⟨v, vs', d, ds', p, q, rfl, rfl, rfl, h0, h1⟩ := trodAll_cons h
    simp only [List.all_cons, Bool.and_eq_true, decide_eq_true_eq] at ht
    exact trodAll_cons_mk (WideElems.Trod_stays hl ht.1.1 ht.1.2 h0 (fun x hx => same_at hb (hlt x (List.mem_append_left _ hx))) (fun x hx => hs x (List.mem_append_left _ hx)))
      (ih vs' ds' q (by simpa using ht.2) h1 (fun x hx => hlt x (List.mem_append_right _ hx)) (fun x hx => hs x (List.mem_append_right _ hx)))
theorem law_post (hl : laidOutB P = true) {f : Func} {s : ChangeSpec} {apart fresh handsOn : Bool} {W W' : World} {args : Array Value} {ds gs : List (DataW H)} {before : List MemPlace}
    (hW : DataW.Whole enc P f.params.toList s.vars apart W args.toList ds gs before) (hvars : s.vars = []) (hbool : ∃ t, f.resultTypes = #[t] ∧ P.underlying t = some .bool)
    (hts : (f.params.toList.all fun t => P.readableRec t && decide (t < P.types.size)) = true)
    (hfn : s.fn H (ds ++ gs) = { results := [.lit (.bool true)], args := ds })
    (hs : ∀ b : Nat, b < W.heap.size → W'.heap[b]? = W.heap[b]?) (ho : W'.os = W.os) (hp : W'.output = W.output) : s.post enc P f apart fresh handsOn false W args (.bool true) W' := by
  have hW' := hW
  obtain ⟨p, q, hA, hV, rfl, hfz, hnd⟩ := hW
  rw [hvars] at hV
  obtain ⟨rfl, rfl⟩ := trodVars_none hV
  obtain ⟨t, ht, hu⟩ := hbool
  refine wfwb (pa := p) (pv := []) hW' (fun b sp hd => ?_) (fun sp hsp => ?_) (fun sp _ => ?_) rfl (kept_of hs ho hp)
  · rw [ht, hfn]
    exact trodAll_cons_mk (shut_bool hu _) trodAll_mk0
  · rw [hfn]
    exact whdb hl hs _ _ _ _ hts hA (fun x hx => hW'.lt x (List.mem_append_left _ hx)) (fun x hx => hsp x (List.mem_append_left _ hx))
  · rw [hfn, hvars]
    exact rfl
end
end Go.Den
namespace Go.Den
noncomputable section
open Go.ChangeShapes Go.WideShapes Go.RowKit
variable {P : Program} {H : Type} {enc : TypeId × Value → H}
theorem row_VR {W : World} {t e : TypeId} {k : IntKind} (ht : P.underlying t = some (.slice e)) (he : P.underlying e = some (.int k)) (hc : P.cellsOf e = 1) {r : Reach} {b0 base fuel : Nat} {sp : Nat → Bool} {held : Bool} {v : Value} {x : DataW H × List MemPlace}
    (hval : Cell.okWide P W r b0 t v) (hf : DataW.trod enc P W base sp held fuel t [v] = some x) : ∃ l : List Int, VR (renW W) (FL l.length (l.map (Value.int k))) v := by
  rcases open_ints ht he hc hf with ⟨hcs, _⟩ | ⟨a, len, cap, zs, hcs, _, hl, hm, hz, _, hcell, _⟩
  · cases hcs
    exact ⟨[], .listNo⟩
  · cases hcs
    have hsp : a.spot = none := by
      simp only [Cell.okWide, ht, Cell.ok] at hval
      exact hval.2.2.2.1
    obtain ⟨blk, off, spot⟩ := a
    subst hsp
    have hlz : len ≤ zs.length := by rw [hz]; split <;> omega
    have hlen : (zs.take len).length = len := by rw [List.length_take]; omega
    refine ⟨zs.take len, ?_⟩
    rw [hlen]
    refine VR.list (a' := ⟨blk, off, none⟩) hl (fun i => .int k (zs.getD i 0)) (fun i hi => ?_) (fun i v hv => ?_)
    · rw [List.length_map, hlen] at hi
      have := hcell i (by omega)
      rw [show (⟨blk, off, none⟩ : Addr).add i = ⟨blk, off + i, none⟩ by unfold Addr.add; split <;> simp_all] at this
      exact this
    · rw [List.getElem?_map] at hv
      have hi : i < len := by
        have := (List.getElem?_eq_some_iff.1 (show ((zs.take len).map (Value.int k))[i]? = some v by rw [List.getElem?_map]; exact hv)).1
        rw [List.length_map, hlen] at this; exact this
      rw [List.getElem?_take, if_pos hi, List.getElem?_eq_getElem (by omega)] at hv
      cases hv
      rw [List.getD_eq_getElem?_getD, List.getElem?_eq_getElem (by omega)]
      exact .flat rfl
theorem wjec {W : World} {t e : TypeId} {k : IntKind} (ht : P.underlying t = some (.slice e)) (he : P.underlying e = some (.int k)) (hc : P.cellsOf e = 1) {r : Reach} {b0 base : Nat} {sp : Nat → Bool} {held : Bool} {v : Value} {d : DataW H} {ps : List MemPlace}
    (hval : Value.okWide P W r b0 t v) (hd : DataW.Trod enc P W base sp held t v d ps) : ∃ l : List Int, VR (renW W) (FL l.length (l.map (Value.int k))) v := by
  obtain ⟨a, len, cap, rfl⟩ := okWide_slice ht hval
  obtain ⟨fuel, hf⟩ := hd
  simp only [Value.okWide, ht] at hval
  exact row_VR ht he hc hval hf
end
end Go.Den
