/-
  PARTS OF A PROOF, joined by a program (8 of 8): a proved reckoner of the model, and what the functions come to.
-/
import Derived.Test.YtdbhfmdndiphcaaQTplLaws7
import Derived.ChangeSame
import Derived.WideKeyArgs
import Derived.OpenShut
import Derived.WideKeyPair
import Derived.ChangeSlices
set_option linter.unusedVariables false
set_option linter.unusedSimpArgs false
namespace Go.Proofs.Ytdbhfmdndiphcaa
open Go.Den
noncomputable section
def Inn (a : Int) (x : St) : Prop := a ≤ x.1 ∧ ∀ g : Nat, 1 ≤ g → g ≤ 3 → 0 ≤ x.2.at (g * 2) → a ≤ x.2.at (g * 2) ∧ x.2.at (g * 2 + 1) ≤ x.1
theorem inn_ways {r : Rx} {s : List UInt8} {a : Int} : ∀ y ∈ wkn r s true a, Inn a y := by
  unfold wkn
  split
  · rename_i h
    refine ways_inv (Q := Inn a) (len := s.length) rfl ?_ ?_ r (wffb h.1) (a, wap) (wofc h.2.1 h.2.2) ?_
    · intro x b hx hb
      refine ⟨Int.le_trans hx.1 hb, fun g g1 g3 h0 => ?_⟩
      have := hx.2 g g1 g3 h0
      exact ⟨this.1, Int.le_trans this.2 hb⟩
    · intro x y n hx hy hxy n1 n3
      refine ⟨hy.1, fun g g1 g3 h0 => ?_⟩
      have e0 : ((y.2.put (n.toNat * 2) x.1).put (n.toNat * 2 + 1) y.1).at (g * 2) = if n.toNat = g then x.1 else y.2.at (g * 2) := by
        rw [Mt.at_put, if_neg (by omega), Mt.at_put]
        by_cases hn : n.toNat = g
        · rw [if_pos (by omega), if_pos hn]
        · rw [if_neg (by omega), if_neg hn]
      have e1 : ((y.2.put (n.toNat * 2) x.1).put (n.toNat * 2 + 1) y.1).at (g * 2 + 1) = if n.toNat = g then y.1 else y.2.at (g * 2 + 1) := by
        rw [Mt.at_put, Mt.at_put]
        by_cases hn : n.toNat = g
        · rw [if_pos (by omega), if_pos hn]
        · rw [if_neg (by omega), if_neg (by omega), if_neg hn]
      simp only [e0, e1] at h0 ⊢
      by_cases hn : n.toNat = g
      · rw [if_pos hn, if_pos hn]; exact ⟨hx.1, Int.le_refl _⟩
      · rw [if_neg hn] at h0
        rw [if_neg hn, if_neg hn]; exact hy.2 g g1 g3 h0
    · refine ⟨Int.le_refl _, fun g g1 g3 h0 => ?_⟩
      exfalso
      have : wap.at (g * 2) = -1 := by
        rcases (show g = 1 ∨ g = 2 ∨ g = 3 by omega) with rfl | rfl | rfl <;> rfl
      simp only [this] at h0
      omega
  · intro y hy; cases hy
theorem wsz {r : Rx} {s : List UInt8} {a : Int} {m : Mt} (h : wyj r s a = some m) : ∃ b : St, wqu r = true ∧ wks (wkn r s true (m.at 0)) none = some b ∧ m = (b.2.put 0 (m.at 0)).put 1 b.1 ∧ 0 ≤ a ∧ a ≤ m.at 0 ∧ m.at 0 ≤ s.length := by
  have hat := wgq h
  unfold wyj at h
  split at h
  · rename_i hq
    obtain ⟨b, a2, h1, h2, h3, h4⟩ := wpz _ _ h
    subst h4
    rw [mt_at0] at *
    exact ⟨b, hq.1, h3, rfl, hq.2.1, h1, by omega⟩
  · cases h
theorem wdjb {r : Rx} {s : List UInt8} {a : Int} {m : Mt} (h : wyj r s a = some m) : wyj r s (m.at 0) = some m := by
  obtain ⟨b, hr, hb, hm, h0, h1, h2⟩ := wsz h
  unfold wyj
  rw [if_pos ⟨hr, by omega, h2⟩]
  obtain ⟨k, hk⟩ : ∃ k, ((s.length : Int) + 1 - m.at 0).toNat = k + 1 := ⟨((s.length : Int) - m.at 0).toNat, by omega⟩
  rw [hk, wrr, hb]
  exact congrArg some hm.symm
def SpOk (m : Mt) : Prop := ∀ g : Nat, 1 ≤ g → g ≤ 3 → 0 ≤ m.at (g * 2) → m.at 0 ≤ m.at (g * 2) ∧ m.at (g * 2 + 1) ≤ m.at 1
theorem wwfc {r : Rx} {s : List UInt8} {a : Int} {m : Mt} (h : wyj r s a = some m) : SpOk m := by
  obtain ⟨b, hr, hb, hm, _⟩ := wsz h
  have hi : Inn (m.at 0) b := by
    rcases wdqb _ _ _ hb with h1 | h1
    · exact inn_ways b h1
    · cases h1
  have hat1 : m.at 1 = b.1 := by rw [hm, mt_at1]
  intro g g1 g3 h0
  have e0 : m.at (g * 2) = b.2.at (g * 2) := by
    conv => lhs; rw [hm]
    rw [Mt.at_put, if_neg (by omega), Mt.at_put, if_neg (by omega)]
  have e1 : m.at (g * 2 + 1) = b.2.at (g * 2 + 1) := by
    conv => lhs; rw [hm]
    rw [Mt.at_put, if_neg (by omega), Mt.at_put, if_neg (by omega)]
  rw [e0] at h0 ⊢
  rw [e1, hat1]
  exact hi.2 g g1 g3 h0
def BehF (r : Rx) (s : List UInt8) (p m : Mt) : Prop :=
  p.at 1 ≤ m.at 0 ∧ ¬ (m.at 0 = m.at 1 ∧ m.at 0 = p.at 1) ∧ ∃ x, wyj r s (p.at 1) = some x ∧ 0 ≤ x.at 0 ∧ x.at 0 ≤ m.at 0 ∧ (x.at 0 = m.at 0 ∨ x.at 0 = x.at 1)
structure MtOk (r : Rx) (s : List UInt8) (prev : Option Mt) (m : Mt) : Prop where
  lo : 0 ≤ m.at 0
  le : m.at 0 ≤ m.at 1
  hi : m.at 1 ≤ s.length
  sp : SpOk m
  fst : prev = none → wyj r s 0 = some m
  beh : ∀ p, prev = some p → BehF r s p m
def wtz (r : Rx) (s : List UInt8) : Option Mt → List Mt → Prop
  | _, [] => True
  | prev, m :: l => MtOk r s prev m ∧ wtz r s (some m) l
def AtF (r : Rx) (s : List UInt8) (a last : Int) : Option Mt → Prop
  | none => a = 0 ∧ last = -1
  | some p => p.at 1 = last ∧ 0 ≤ last ∧ (a = last ∨ (a = last + 1 ∧ ∃ x, wyj r s last = some x ∧ x.at 0 = last ∧ x.at 1 = last))
theorem mt_ok {r : Rx} {s : List UInt8} {a last : Int} {prev : Option Mt} {m : Mt} (hat : AtF r s a last prev) (hm : wyj r s a = some m) (hne : ¬ (m.at 0 = m.at 1 ∧ m.at 1 = last)) : MtOk r s prev m := by
  have h := wgq hm
  refine ⟨by omega, h.2.2.1, h.2.2.2, wwfc hm, fun hp => ?_, fun p hp => ?_⟩
  · subst hp
    obtain ⟨rfl, _⟩ := hat
    exact hm
  · subst hp
    obtain ⟨h1, h0, h2⟩ := hat
    unfold BehF
    rw [h1]
    rcases h2 with rfl | ⟨rfl, x, hx, x0, x1⟩
    · exact ⟨h.2.1, fun hc => hne ⟨hc.1, by omega⟩, m, hm, by omega, Int.le_refl _, .inl rfl⟩
    · exact ⟨by omega, fun hc => by omega, x, hx, by omega, by omega, .inr (by omega)⟩
theorem wxfc {r : Rx} {s : List UInt8} : ∀ (k : Nat) (a last : Int) (out : List Mt), AtF r s a last out.getLast? → ∃ l, (alF r s k a last out).2 = out ++ l ∧ wtz r s out.getLast? l := by
  intro k
  induction k with
  | zero => intro a last out _; exact ⟨[], by rw [alF, List.append_nil], trivial⟩
  | succ k ih =>
    intro a last out hat
    rw [alF]
    split
    · cases hf : wyj r s a with
      | none => exact ⟨[], by rw [List.append_nil], trivial⟩
      | some m =>
        have h := wgq hf
        have hlast : (out ++ [m]).getLast? = some m := by simp
        simp only
        by_cases he : m.at 0 = m.at 1
        · rw [if_pos he]
          have hag := wdjb hf
          by_cases hl : m.at 1 = last
          · rw [if_pos hl]
            refine ih _ _ _ ?_
            cases hp : out.getLast? with
            | none =>
              rw [hp] at hat
              obtain ⟨_, h2⟩ := hat
              omega
            | some p =>
              rw [hp] at hat
              obtain ⟨h1, h0, _⟩ := hat
              refine ⟨h1, h0, .inr ⟨by omega, m, ?_, by omega, by omega⟩⟩
              rw [he, hl] at hag
              exact hag
          · rw [if_neg hl]
            obtain ⟨l, h1, h2⟩ := ih (m.at 1 + 1) (m.at 1) (out ++ [m]) (by rw [hlast]; exact ⟨rfl, by omega, .inr ⟨rfl, m, by rw [he] at hag; exact hag, he, rfl⟩⟩)
            refine ⟨m :: l, by rw [h1, List.append_assoc]; rfl, mt_ok hat hf (fun hc => hl hc.2), ?_⟩
            rwa [hlast] at h2
        · rw [if_neg he]
          obtain ⟨l, h1, h2⟩ := ih (m.at 1) (m.at 1) (out ++ [m]) (by rw [hlast]; exact ⟨rfl, by omega, .inl rfl⟩)
          refine ⟨m :: l, by rw [h1, List.append_assoc]; rfl, mt_ok hat hf (fun hc => he hc.1), ?_⟩
          rwa [hlast] at h2
    · exact ⟨[], by rw [List.append_nil], trivial⟩
theorem wfcb (r : Rx) (s : List UInt8) : wtz r s none (allR r s) := by
  obtain ⟨l, h1, h2⟩ := wxfc (r := r) (s := s) (s.length + 1) 0 (-1) [] ⟨rfl, rfl⟩
  unfold allR
  rw [h1, List.nil_append]
  exact h2
theorem al_len {r : Rx} {s : List UInt8} : ∀ (k : Nat) (a last : Int) (out : List Mt), (alF r s k a last out).2.length ≤ out.length + k := by
  intro k
  induction k with
  | zero => intro a last out; exact Nat.le_refl _
  | succ k ih =>
    intro a last out
    rw [alF]
    split
    · split
      · exact Nat.le_add_right _ _
      · split
        · split
          · exact Nat.le_trans (ih _ _ _) (by omega)
          · refine Nat.le_trans (ih _ _ _) ?_
            rw [List.length_append, List.length_singleton]; omega
        · refine Nat.le_trans (ih _ _ _) ?_
          rw [List.length_append, List.length_singleton]; omega
    · exact Nat.le_add_right _ _
theorem wiqb (r : Rx) (s : List UInt8) : (allR r s).length ≤ s.length + 1 := by
  have := al_len (r := r) (s := s) (s.length + 1) 0 (-1) []
  rw [List.length_nil, Nat.zero_add] at this
  exact this
end
end Go.Proofs.Ytdbhfmdndiphcaa
namespace Go.Proofs.Ytdbhfmdndiphcaa
set_option linter.unusedVariables false
set_option linter.unusedSimpArgs false
open Go.Den
noncomputable section
theorem len_0 (a : Bool) : lim Try.prog cfg (.call 66 [sbP]) (HP [X [sbA a, .slice none 0 0] SB 0 false]) = some (.val (.int .i64 0), HP [X [sbA a, .slice none 0 0] SB 0 false]) := by
  refine wib hc wpi (Nat.le_of_ble_eq_true rfl) (Nat.le_of_ble_eq_true rfl) ?_
  unfold wzg
  cases a with
  | true =>
    rw [show sbA true = sbP from rfl]
    (repeat' (first | (simp -implicitDefEqProofs (maxSteps := 2000000) (disch := first | with_reducible assumption | omega | (simp only [zS, zA, seval, zD] <;> omega) | fail) only [zS, argl, insA, Go.Den.wm, wo, wu, looks, wz, wy, idOf, riA, seval, Go.Den.wh, kK, *, zT]) | (with_reducible (first | apply z1 | apply z2 | apply z3 | apply z4) <;> intro hq <;> (try simp only [zH] at hq) <;> (try (exfalso; omega)))))
    all_goals rfl
  | false =>
    rw [show sbA false = .pointer none from rfl]
    (repeat' (first | (simp -implicitDefEqProofs (maxSteps := 2000000) (disch := first | with_reducible assumption | omega | (simp only [zS, zA, seval, zD] <;> omega) | fail) only [zS, argl, insA, Go.Den.wm, wo, wu, looks, wz, wy, idOf, riA, seval, Go.Den.wh, kK, *, zT]) | (with_reducible (first | apply z1 | apply z2 | apply z3 | apply z4) <;> intro hq <;> (try simp only [zH] at hq) <;> (try (exfalso; omega)))))
    all_goals rfl
theorem len_1 (l : List UInt8) : lim Try.prog cfg (.call 66 [sbP]) (HP [X [sbP, FO 1 l.length (u8s l)] SB 0 false, .tok l.length BY 1]) = some (.val (.int .i64 l.length), HP [X [sbP, FO 1 l.length (u8s l)] SB 0 false, .tok l.length BY 1]) := by
  refine wib hc wpi (Nat.le_of_ble_eq_true rfl) (Nat.le_of_ble_eq_true rfl) ?_
  unfold wzg
  (repeat' (first | (simp -implicitDefEqProofs (maxSteps := 2000000) (disch := first | with_reducible assumption | omega | (simp only [zS, zA, seval, zD] <;> omega) | fail) only [zS, argl, insA, Go.Den.wm, wo, wu, looks, wz, wy, idOf, riA, seval, Go.Den.wh, kK, *, zT]) | (with_reducible (first | apply z1 | apply z2 | apply z3 | apply z4) <;> intro hq <;> (try simp only [zH] at hq) <;> (try (exfalso; omega)))))
def wgh (L : List Pc) (s : List UInt8) : Int → List Mt → List UInt8
  | a, [] => s.drop a.toNat
  | a, m :: ms => (s.take (m.at 0).toNat).drop a.toNat ++ (wem m s L ++ wgh L s (m.at 1) ms)
def wyl (L : List Pc) (s : List UInt8) : Int → List Mt → List UInt8
  | _, [] => []
  | a, m :: ms => (s.take (m.at 0).toNat).drop a.toNat ++ (wem m s L ++ wyl L s (m.at 1) ms)
def endF : Int → List Mt → Int
  | a, [] => a
  | _, m :: ms => endF (m.at 1) ms
theorem wonb (L : List Pc) (s : List UInt8) : ∀ (ms : List Mt) (a : Int), wgh L s a ms = wyl L s a ms ++ s.drop (endF a ms).toNat := by
  intro ms
  induction ms with
  | nil => intro a; rw [wgh, wyl, endF, List.nil_append]
  | cons m ms ih => intro a; rw [wgh, wyl, endF, ih, List.append_assoc, List.append_assoc]
def rowF (n : Nat) : Int → List Mt → Prop
  | _, [] => True
  | a, m :: ms => a ≤ m.at 0 ∧ m.at 0 ≤ m.at 1 ∧ m.at 1 ≤ n ∧ rowF n (m.at 1) ms
theorem wuz {l : List Mt} {i : Nat} (h : i < l.length) : l.drop i = l.getD i Mt.zero :: l.drop (i + 1) := by
  rw [List.drop_eq_getElem_cons h, List.getD_eq_getElem?_getD, List.getElem?_eq_getElem h]; rfl
abbrev stP0 : Value := .pointer (some ⟨0, 0, none⟩)
def wpnb (s : List UInt8) (a b : Int) : List UInt8 := (s.take b.toNat).drop a.toNat
theorem wgfb {s : List UInt8} {a b : Int} : (wpnb s a b).length ≤ s.length := by unfold wpnb; rw [List.length_drop, List.length_take]; omega
set_option maxRecDepth 200000 in
set_option maxHeartbeats 4000000 in
theorem subst_C (L : List Pc) (hL : L.length ≤ 5) (hp : ∀ p ∈ L, p.2.length ≤ 1000) (s : List UInt8) (hs : s.length ≤ 1000) (ms : List Mt) (hm : ms.length ≤ 13) : ∀ (k i : Nat) (a : Int) (l : List UInt8), i + k = ms.length → 0 ≤ a → rowF s.length a (ms.drop i) → l ≠ [] → l.length ≤ 6000 + i * 6000 →
    lim Try.prog cfg (.loop 42 0 (whj 0) (SE (EJ 66 G0) [(38, .int .i64 i), (37, .int .i64 ms.length), (36, FL ms.length (mtsC ms)), (15, .int .i64 a), (14, stP0), (2, str s), (1, FL L.length (pcsC L))])) (HP [X [sbP, FO 1 l.length (u8s l)] SB 0 false, .tok l.length BY 1]) = some (.code (.exit 0) (SE (EJ 66 G0) [(15, .int .i64 (endF a (ms.drop i))), (14, stP0), (2, str s)]), HP [X [sbP, FO 1 (l ++ wyl L s a (ms.drop i)).length (u8s (l ++ wyl L s a (ms.drop i)))] SB 0 false, .tok (l ++ wyl L s a (ms.drop i)).length BY 1]) := by
  intro k
  induction k with
  | zero =>
    intro i a l hi ha hr hne hl
    clear hp hr
    rw [List.drop_of_length_le (by omega), wyl, endF, List.append_nil]
    refine wcb wvh ?_
    unfold woi
    (repeat' (first | (simp -implicitDefEqProofs (maxSteps := 2000000) (disch := first | with_reducible assumption | omega | (simp only [zS, zA, seval, wwj, wse, whq, zD] <;> omega) | fail) only [zS, argl, insA, Go.Den.wm, wo, wu, looks, wz, wy, idOf, riA, seval, Go.Den.wh, kK, wqi, *, zT]) | (with_reducible (first | apply z1 | apply z2 | apply z3 | apply z4) <;> intro hq <;> (try simp only [zH] at hq) <;> (try (exfalso; omega)))))
  | succ k ih =>
    intro i a l hi ha hr hne hl
    have hlt : i < ms.length := by omega
    rw [wuz hlt] at hr ⊢
    obtain ⟨r1, r2, r3, r4⟩ := hr
    rw [wyl, endF]
    have hf := wvfc (ms.getD i Mt.zero) s hs L (by omega) hp
    have hfl := wbx (ms.getD i Mt.zero) s hs L hp
    have hsl : wpnb s a ((ms.getD i Mt.zero).at 0) = (s.take ((ms.getD i Mt.zero).at 0).toNat).drop a.toNat := rfl
    have hll := wgfb (s := s) (a := a) (b := (ms.getD i Mt.zero).at 0)
    generalize wem (ms.getD i Mt.zero) s L = p at *
    rw [← hsl]
    generalize wpnb s a ((ms.getD i Mt.zero).at 0) = q at *
    replace hsl := hsl.symm
    have hpl : p.length ≤ 5000 := by omega
    have hi2 : i + 1 + k = ms.length := by omega
    have ha2 : 0 ≤ (ms.getD i Mt.zero).at 1 := by omega
    have hb1 : l.length + q.length ≤ 1000000 := by omega
    have hb2 : l.length + q.length + p.length ≤ 1000000 := by omega
    have hb3 : l.length + q.length + p.length ≤ 6000 + (i + 1) * 6000 := by omega
    have hb4 : l.length + p.length ≤ 1000000 := by omega
    have w1 := wnv l q hb1
    have w2 := wnv (l ++ q) p (by rw [List.length_append]; exact hb2)
    have h := ih (i + 1) ((ms.getD i Mt.zero).at 1) (l ++ q ++ p) hi2 ha2 r4 (by simp [hne]) (by rw [List.length_append, List.length_append]; exact hb3)
    clear ih hp r4 hb1 hb2 hb3 hb4 hfl hll hpl hl
    rw [show l ++ (q ++ (p ++ wyl L s ((ms.getD i Mt.zero).at 1) (ms.drop (i + 1)))) = l ++ q ++ p ++ wyl L s ((ms.getD i Mt.zero).at 1) (ms.drop (i + 1)) by simp only [List.append_assoc]]
    generalize l ++ q ++ p ++ wyl L s ((ms.getD i Mt.zero).at 1) (ms.drop (i + 1)) = R at h ⊢
    generalize l ++ q ++ p = l3 at h w2
    generalize l ++ q = l2 at w1 w2
    refine wcb wvh ?_
    unfold woi
    (repeat' (first | (simp -implicitDefEqProofs (maxSteps := 2000000) (disch := first | with_reducible assumption | omega | (simp only [zS, zA, seval, wwj, wse, wxe, whq, zD] <;> omega) | fail) only [zS, argl, insA, Go.Den.wm, wo, wu, looks, wz, wy, idOf, riA, seval, Go.Den.wh, kK, wqi, *, zT]) | (with_reducible (first | apply z1 | apply z2 | apply z3 | apply z4) <;> intro hq <;> (try simp only [zH] at hq) <;> (try (exfalso; omega)))))
    all_goals exact h
set_option maxRecDepth 20000 in
set_option maxHeartbeats 4000000 in
theorem subst_N (L : List Pc) (hL : L.length ≤ 5) (hp : ∀ p ∈ L, p.2.length ≤ 1000) (s : List UInt8) (hs : s.length ≤ 1000) (ms : List Mt) (hm : ms.length ≤ 13) : ∀ (k i : Nat) (a : Bool) (p0 : Int), i + k = ms.length → 0 ≤ p0 → rowF s.length p0 (ms.drop i) →
    lim Try.prog cfg (.loop 42 0 (whj 0) (SE (EJ 66 G0) [(38, .int .i64 i), (37, .int .i64 ms.length), (36, FL ms.length (mtsC ms)), (15, .int .i64 p0), (14, stP0), (2, str s), (1, FL L.length (pcsC L))])) (HP [X [sbA a, .slice none 0 0] SB 0 false]) = some (.code (.exit 0) (SE (EJ 66 G0) [(15, .int .i64 (endF p0 (ms.drop i))), (14, stP0), (2, str s)]), HP (sbH (a || decide (0 < k)) (wyl L s p0 (ms.drop i)))) := by
  intro k
  induction k with
  | zero =>
    intro i a p0 hi ha hr
    clear hp hr
    rw [List.drop_of_length_le (by omega), wyl, endF, wfvb, show (a || decide (0 < 0)) = a by cases a <;> rfl]
    cases a <;> simp only [wsib, wtib]
    all_goals
      refine wcb wvh ?_
      unfold woi
      (repeat' (first | (simp -implicitDefEqProofs (maxSteps := 2000000) (disch := first | with_reducible assumption | omega | (simp only [zS, zA, seval, wwj, wse, wxe, whq, zD] <;> omega) | fail) only [zS, argl, insA, Go.Den.wm, wo, wu, looks, wz, wy, idOf, riA, seval, Go.Den.wh, kK, wqi, *, zT]) | (with_reducible (first | apply z1 | apply z2 | apply z3 | apply z4) <;> intro hq <;> (try simp only [zH] at hq) <;> (try (exfalso; omega)))))
  | succ k ih =>
    intro i a p0 hi ha hr
    have hlt : i < ms.length := by omega
    rw [wuz hlt] at hr ⊢
    obtain ⟨r1, r2, r3, r4⟩ := hr
    rw [wyl, endF]
    have hf := wvfc (ms.getD i Mt.zero) s hs L (by omega) hp
    have hfl := wbx (ms.getD i Mt.zero) s hs L hp
    have hsl : wpnb s p0 ((ms.getD i Mt.zero).at 0) = (s.take ((ms.getD i Mt.zero).at 0).toNat).drop p0.toNat := rfl
    have hll := wgfb (s := s) (a := p0) (b := (ms.getD i Mt.zero).at 0)
    have hC := subst_C L hL hp s hs ms hm k (i + 1) ((ms.getD i Mt.zero).at 1)
    generalize wem (ms.getD i Mt.zero) s L = p at *
    rw [← hsl]
    generalize wpnb s p0 ((ms.getD i Mt.zero).at 0) = q at *
    replace hsl := hsl.symm
    have hpl : p.length ≤ 5000 := by omega
    have hi2 : i + 1 + k = ms.length := by omega
    have ha2 : 0 ≤ (ms.getD i Mt.zero).at 1 := by omega
    have hb1 : q.length ≤ 1000000 := by omega
    have hb2 : q.length + p.length ≤ 1000000 := by omega
    have hb3 : q.length + p.length ≤ 6000 + (i + 1) * 6000 := by omega
    have hb4 : p.length ≤ 1000000 := by omega
    have hb5 : p.length ≤ 6000 + (i + 1) * 6000 := by omega
    have hat : (a || decide (0 < k + 1)) = true := by rw [decide_eq_true (Nat.succ_pos k), Bool.or_true]
    rw [hat]
    clear hat
    by_cases q0 : q = []
    case' neg =>
      have w1 := wax a q hb1 q0
      have w2 := wnv q p hb2
      have h := hC (q ++ p) hi2 ha2 r4 (by simp [q0]) (by rw [List.length_append]; exact hb3)
      rw [← List.append_assoc, wgnb (show q ++ p ++ wyl L s ((ms.getD i Mt.zero).at 1) (ms.drop (i + 1)) ≠ [] by simp [q0])]
      generalize q ++ p ++ wyl L s ((ms.getD i Mt.zero).at 1) (ms.drop (i + 1)) = R at h ⊢
      generalize q ++ p = l3 at h w2
    case' pos =>
      rw [q0] at hsl
      rw [q0, List.nil_append]
      have w1 := wzw a
      by_cases p1 : p = []
      case' pos =>
        rw [p1] at hf
        rw [p1, List.nil_append]
        have w2 := wzw true
        have h := ih (i + 1) true ((ms.getD i Mt.zero).at 1) hi2 ha2 r4
        rw [Bool.true_or] at h
        generalize sbH true (wyl L s ((ms.getD i Mt.zero).at 1) (ms.drop (i + 1))) = R at h ⊢
      case' neg =>
        have w2 := wax true p hb4 p1
        have h := hC p hi2 ha2 r4 p1 hb5
        rw [wgnb (show p ++ wyl L s ((ms.getD i Mt.zero).at 1) (ms.drop (i + 1)) ≠ [] by simp [p1])]
        generalize p ++ wyl L s ((ms.getD i Mt.zero).at 1) (ms.drop (i + 1)) = R at h ⊢
      all_goals clear p1
    all_goals
      clear ih hp r4 hb1 hb2 hb3 hb4 hb5 hfl hll hpl hC q0
      cases a <;> simp only [wsib, wtib] at w1 w2 h ⊢
    all_goals
      refine wcb wvh ?_
      unfold woi
      (repeat' (first | (simp -implicitDefEqProofs (maxSteps := 2000000) (disch := first | with_reducible assumption | omega | (simp only [zS, zA, seval, wwj, wse, wxe, whq, zD] <;> omega) | fail) only [zS, argl, insA, Go.Den.wm, wo, wu, looks, wz, wy, idOf, riA, seval, Go.Den.wh, kK, wqi, *, zT]) | (with_reducible (first | apply z1 | apply z2 | apply z3 | apply z4) <;> intro hq <;> (try simp only [zH] at hq) <;> (try (exfalso; omega)))))
      exact h
theorem wyfc {r : Rx} {s : List UInt8} : ∀ (l : List Mt) (p : Mt), wtz r s (some p) l → rowF s.length (p.at 1) l := by
  intro l
  induction l with
  | nil => intro p _; trivial
  | cons m l ih =>
    intro p h
    have hb := h.1.beh p rfl
    exact ⟨hb.1, h.1.le, h.1.hi, ih m h.2⟩
theorem wgcb {r : Rx} {s : List UInt8} {prev : Option Mt} {l : List Mt} (h : wtz r s prev l) : rowF s.length 0 l := by
  cases l with
  | nil => trivial
  | cons m l => exact ⟨h.1.lo, h.1.le, h.1.hi, wyfc l m h.2⟩
theorem wlvb {r : Rx} {s : List UInt8} : ∀ (n : Nat) (l : List Mt) (prev : Option Mt), wtz r s prev l → ∃ q, wtz r s q (l.drop n) := by
  intro n
  induction n with
  | zero => intro l prev h; exact ⟨prev, h⟩
  | succ n ih =>
    intro l prev h
    cases l with
    | nil => exact ⟨prev, trivial⟩
    | cons m l => exact ih l (some m) h.2
theorem row_take {n : Nat} : ∀ (l : List Mt) (a : Int) (k : Nat), rowF n a l → rowF n a (l.take k) := by
  intro l
  induction l with
  | nil => intro a k _; rw [List.take_nil]; trivial
  | cons m l ih =>
    intro a k h
    cases k with
    | zero => trivial
    | succ k => exact ⟨h.1, h.2.1, h.2.2.1, ih _ k h.2.2.2⟩
theorem row_end {n : Nat} : ∀ (l : List Mt) (a : Int), 0 ≤ a → a ≤ n → rowF n a l → 0 ≤ endF a l ∧ endF a l ≤ n := by
  intro l
  induction l with
  | nil => intro a h0 h1 _; exact ⟨h0, h1⟩
  | cons m l ih =>
    intro a h0 h1 h
    obtain ⟨r1, r2, r3, r4⟩ := h
    exact ih _ (by omega) r3 r4
def askF (r : Rx) (s : List UInt8) (n : Nat) (global : Bool) : List Mt := if global = true then (allR r s).drop n else ((allR r s).drop n).take 1
def subR (r : Rx) (L : List Pc) (s : List UInt8) (n : Nat) (global : Bool) : List UInt8 × Bool :=
  if (allR r s).length ≤ n then (s, false) else if 400 < (wgh L s 0 (askF r s n global)).length then (s, false) else (wgh L s 0 (askF r s n global), true)
def slG (size n : Nat) (cs : List Value) : Option Nat → Option Nat → ARes
  | some l, some h => bif Nat.ble l h && (Nat.ble h n && Nat.beq (n * size) cs.length) then (bif Nat.beq l h then val (FL 0 []) else val (FL (h - l) (slotsOf cs (l * size) ((h - l) * size)))) else .none
  | _, _ => .none
theorem slS_FLa {e : Env} {H : AH} {size n : Nat} {cs : List Value} {x : Operand} : slSR e H size (FL n cs) (some x) none none = slG size n cs (wwi (evl e x)) (some n) := by
  show (match wwi (evl e x), some n with
    | some l, some h => slF2 size (n, cs) e none none l h
    | _, _ => .none) = _
  cases wwi (evl e x) <;> rfl
theorem slS_FLb {e : Env} {H : AH} {size n : Nat} {cs : List Value} {y : Operand} : slSR e H size (FL n cs) none (some y) none = slG size n cs (some 0) (wwi (evl e y)) := by
  show (match some 0, wwi (evl e y) with
    | some l, some h => slF2 size (n, cs) e (some y) none l h
    | _, _ => .none) = _
  cases wwi (evl e y) <;> rfl
theorem slG_some {size n l h : Nat} {cs : List Value} (h1 : l < h) (h2 : h ≤ n) (h3 : n * size = cs.length) : slG size n cs (some l) (some h) = val (FL (h - l) (slotsOf cs (l * size) ((h - l) * size))) := by
  show (bif Nat.ble l h && (Nat.ble h n && Nat.beq (n * size) cs.length) then (bif Nat.beq l h then val (FL 0 []) else _) else .none) = _
  rw [nble, nble, nbeq, nbeq, decide_eq_true (Nat.le_of_lt h1), decide_eq_true h2, decide_eq_true h3, decide_eq_false (by omega)]
  rfl
theorem wzfc {l : List Mt} {n k : Nat} (h : n + k ≤ l.length) : slotsOf (mtsC l) (n * 8) (k * 8) = mtsC ((l.drop n).take k) := by
  induction l generalizing n with
  | nil =>
    have : n = 0 ∧ k = 0 := by simp at h; omega
    rw [this.1, this.2]; rfl
  | cons m l ih =>
    cases n with
    | succ n =>
      have h2 := ih (n := n) (by rw [List.length_cons] at h; omega)
      rw [List.drop_succ_cons, ← h2]
      unfold slotsOf
      rw [show mtsC (m :: l) = mtC m ++ mtsC l by rw [mtsC, mtsC, List.flatMap_cons], show (n + 1) * 8 = (mtC m).length + n * 8 by rw [wcw]; omega, List.drop_append, List.drop_of_length_le (by omega), List.nil_append]
      congr 2
      omega
    | zero =>
      clear ih
      rw [List.drop_zero, Nat.zero_mul]
      generalize m :: l = l at *
      unfold slotsOf
      rw [List.drop_zero]
      induction k generalizing l with
      | zero => rw [Nat.zero_mul, List.take_zero, List.take_zero]; rfl
      | succ k ih =>
        cases l with
        | nil => simp at h
        | cons m l =>
          rw [List.take_succ_cons, show mtsC (m :: l) = mtC m ++ mtsC l by rw [mtsC, mtsC, List.flatMap_cons], show mtsC (m :: l.take k) = mtC m ++ mtsC (l.take k) by rw [mtsC, mtsC, List.flatMap_cons]]
          rw [← ih l (by rw [List.length_cons] at h; omega), show (k + 1) * 8 = (mtC m).length + k * 8 by rw [wcw]; omega, List.take_append]
          rw [List.take_of_length_le (show (mtC m).length ≤ (mtC m).length + k * 8 by omega)]
          congr 2
          omega
end
end Go.Proofs.Ytdbhfmdndiphcaa
namespace Go.Proofs.Ytdbhfmdndiphcaa
set_option linter.unusedVariables false
set_option linter.unusedSimpArgs false
open Go.Den
noncomputable section
theorem subs_len (L : List Pc) (hL : L.length ≤ 5) (hp : ∀ p ∈ L, p.2.length ≤ 1000) (s : List UInt8) (hs : s.length ≤ 1000) : ∀ (ms : List Mt) (a : Int), (wyl L s a ms).length ≤ ms.length * 6000 := by
  intro ms
  induction ms with
  | nil => intro a; rw [wyl]; exact Nat.zero_le _
  | cons m ms ih =>
    intro a
    have h1 := wgfb (s := s) (a := a) (b := m.at 0)
    have h2 := wbx m s hs L hp
    have h3 := ih (m.at 1)
    unfold wpnb at h1
    rw [wyl, List.length_append, List.length_append, List.length_cons]
    omega
set_option maxRecDepth 20000 in
set_option maxHeartbeats 8000000 in
theorem wru (r : Rx) (hn : wec r ≤ 1000000) (s : List UInt8) (hs : s.length ≤ 12) (L : List Pc) (hL : L.length ≤ 5) (hp : ∀ p ∈ L, p.2.length ≤ 1000) (nth : Int) (N : Nat) (hN : max nth 1 - 1 = (N : Int)) (hN2 : N ≤ 1000) (global : Bool) :
    lim Try.prog cfg (.call 42 [.agg ⟨rxC r⟩, FL L.length (pcsC L), str s, .int .i64 nth, .bool global]) (HP []) = some (.val (.tuple ⟨[str (subR r L s N global).1, .bool (subR r L s N global).2]⟩), HP []) := by
  have ha := ev_All r hn s hs
  have hl := wiqb r s
  have hch := wfcb r s
  obtain ⟨pv, hdr⟩ := wlvb N (allR r s) none hch
  have hr0 := wgcb hdr
  have hr1 := row_take _ 0 1 hr0
  clear hch hdr
  unfold subR askF
  have hcl : (mtsC (allR r s)).length = (allR r s).length * 8 := wveb
  by_cases hlen : (allR r s).length ≤ N
  · rw [if_pos hlen]
    clear hr0 hr1 hp
    refine wib hc wfq (Nat.le_of_ble_eq_true rfl) (Nat.le_of_ble_eq_true rfl) ?_
    unfold weq
    (repeat' (first | (simp -implicitDefEqProofs (maxSteps := 2000000) (disch := first | with_reducible assumption | omega | (simp only [zS, zA, seval, wse, whq, wig, zD] <;> omega) | fail) only [zS, argl, insA, Go.Den.wm, wo, wu, looks, wz, wy, idOf, riA, seval, Go.Den.wh, kK, *, zT]) | (with_reducible (first | apply z1 | apply z2 | apply z3 | apply z4) <;> intro hq <;> (try simp only [zH] at hq) <;> (try (exfalso; omega)))))
  · rw [if_neg hlen]
    have hdl : (allR r s).length - N = ((allR r s).drop N).length := by rw [List.length_drop]
    have e1 : slotsOf (mtsC (allR r s)) (N * 8) (((allR r s).drop N).length * 8) = mtsC ((allR r s).drop N) := by
      rw [← hdl, wzfc (by omega), List.take_of_length_le (by omega)]
    have e2 : slotsOf (mtsC ((allR r s).drop N)) 0 8 = mtsC (((allR r s).drop N).take 1) := by
      have := wzfc (l := (allR r s).drop N) (n := 0) (k := 1) (by omega)
      rw [List.drop_zero] at this
      exact this
    have hcl2 : (mtsC ((allR r s).drop N)).length = ((allR r s).drop N).length * 8 := wveb
    have hD0 : 0 < ((allR r s).drop N).length := by omega
    have hD1 : ((allR r s).drop N).length ≤ 13 := by omega
    have ht1 : (((allR r s).drop N).take 1).length = 1 := by rw [List.length_take]; omega
    have key : ∀ ms : List Mt, ms.length ≤ 13 → 0 < ms.length → rowF s.length 0 ms →
        ∃ (a : Int) (l q : List UInt8), lim Try.prog cfg (.loop 42 0 (whj 0) (SE (EJ 66 G0) [(38, .int .i64 0), (37, .int .i64 ms.length), (36, FL ms.length (mtsC ms)), (15, .int .i64 0), (14, stP0), (2, str s), (1, FL L.length (pcsC L))])) (HP [X [.pointer none, .slice none 0 0] SB 0 false]) = some (.code (.exit 0) (SE (EJ 66 G0) [(15, .int .i64 a), (14, stP0), (2, str s)]), HP (sbH true l)) ∧ 0 ≤ a ∧ a ≤ s.length ∧ s.drop a.toNat = q ∧ wgh L s 0 ms = l ++ q ∧ l.length ≤ 78000 := by
      intro ms h13 h0 hrow
      have h := subst_N L hL hp s (by omega) ms h13 ms.length 0 false 0 (by omega) (by omega) (by rw [List.drop_zero]; exact hrow)
      rw [List.drop_zero, show ((0 : Nat) : Int) = 0 from rfl, show sbA false = .pointer none from rfl, Bool.false_or, decide_eq_true h0] at h
      have he := row_end ms 0 (by omega) (by omega) hrow
      have hsl := subs_len L hL hp s (by omega) ms 0
      exact ⟨_, _, _, h, he.1, he.2, rfl, wonb L s ms 0, by omega⟩
    have k0 := key _ hD1 hD0 hr0
    have k1 := key _ (by omega) (by omega) hr1
    clear key hr0 hr1 hp
    have fin : ∀ (l q : List UInt8) (a : Int), s.drop a.toNat = q → q.length ≤ 12 → l.length ≤ 78000 →
        ∃ o : List UInt8 × Bool, (if 400 < (l ++ q).length then (s, false) else (l ++ q, true)) = o ∧
          ((l = [] ∧ q = [] ∧ o = ([], true)) ∨ (l = [] ∧ q ≠ [] ∧ o = (q, true) ∧ ¬ 400 < (q.length : Int)) ∨ (l ≠ [] ∧ 400 < ((l ++ q).length : Int) ∧ o = (s, false)) ∨ (l ≠ [] ∧ ¬ 400 < ((l ++ q).length : Int) ∧ o = (l ++ q, true))) := by
      intro l q a _ hq hl
      refine ⟨_, rfl, ?_⟩
      by_cases l0 : l = []
      · subst l0
        rw [List.nil_append, if_neg (by omega)]
        by_cases q0 : q = []
        · subst q0; exact .inl ⟨rfl, rfl, rfl⟩
        · exact .inr (.inl ⟨rfl, q0, rfl, by omega⟩)
      · by_cases hb : 400 < (l ++ q).length
        · exact .inr (.inr (.inl ⟨l0, by omega, if_pos hb⟩))
        · exact .inr (.inr (.inr ⟨l0, by omega, if_neg hb⟩))
    cases global
    case' false =>
      simp only [Bool.false_eq_true, if_false]
      clear k0
      rw [ht1, show ((1 : Nat) : Int) = 1 from rfl] at k1
      obtain ⟨a, l, q, hk, a0, a1, hq, htx, hll⟩ := k1
    case' true =>
      simp only [if_true, eq_self]
      clear k1 e2 ht1
      obtain ⟨a, l, q, hk, a0, a1, hq, htx, hll⟩ := k0
    all_goals
      have hql : q.length ≤ 12 := by rw [← hq, List.length_drop]; omega
      rw [htx]
      try generalize ((allR r s).drop N).take 1 = D1 at *
      generalize (allR r s).drop N = D at *
      generalize allR r s = all at *
      clear htx
      obtain ⟨o, ho, hcase⟩ := fin l q a hq hql hll
      rw [ho]
      clear fin ho
      rcases hcase with ⟨l0, q0, rfl⟩ | ⟨l0, q0, rfl, hbig⟩ | ⟨l0, hbig, rfl⟩ | ⟨l0, hbig, rfl⟩
      case' inl =>
        subst l0 q0
        rw [wfvb] at hk
        have w := wzw true
        have wl := len_0 true
        have ws := wtpb true
        simp only [show sbA true = sbP from rfl] at hk w wl ws
      case' inr.inl =>
        subst l0
        rw [wfvb] at hk
        have w := wax true q (by omega) q0
        have wl := len_1 q
        have ws := wyeb q (List.length_pos_iff.2 q0) (by omega)
        simp only [show sbA true = sbP from rfl] at hk w
        clear q0
      case' inr.inr.inl =>
        rw [wgnb l0] at hk
        have w := wnv l q (by omega)
        generalize l ++ q = t at *
        have wl := len_1 t
        clear l0
      case' inr.inr.inr =>
        rw [wgnb l0] at hk
        have w := wnv l q (by omega)
        have ws := wyeb (l ++ q) (List.length_pos_iff.2 (by simp [l0])) (by rw [List.length_append]; omega)
        generalize l ++ q = t at *
        have wl := len_1 t
        clear l0
    all_goals
      clear hll hql
      refine wib hc wfq (Nat.le_of_ble_eq_true rfl) (Nat.le_of_ble_eq_true rfl) ?_
      unfold weq
      (repeat' (first | (simp -implicitDefEqProofs (maxSteps := 2000000) (disch := first | with_reducible assumption | omega | (simp only [zS, zA, seval, wse, whq, wig, wwj, zD] <;> omega) | fail) only [zS, argl, insA, Go.Den.wm, wo, wu, looks, wz, wy, idOf, riA, seval, Go.Den.wh, kK, wqi, slS_FLa, slS_FLb, slG_some, *, zT]) | (with_reducible (first | apply z1 | apply z2 | apply z3 | apply z4) <;> intro hq <;> (try simp only [zH] at hq) <;> (try (exfalso; omega)))))
end
end Go.Proofs.Ytdbhfmdndiphcaa
namespace Go.Proofs.Ytdbhfmdndiphcaa
set_option linter.unusedVariables false
set_option linter.unusedSimpArgs false
open Go.Den
noncomputable section
def elems1 : Option ABlk → Option (List Value)
  | some (.cells b) => (match (bif rdOk b 0 1 then some b else none) with
    | some b => some (slotsOf b.cells 0 1)
    | none => none)
  | _ => none
def b2s1 (o : Option ABlk) : ARes := match elems1 o with
  | some l => bif l.all isU8 then val (.string ⟨(l.map toU8).toArray⟩) else .none
  | none => .none
theorem b2s_HP {h : List ABlk} (hh : h.length ≤ 1099511627774) {i c : Nat} : b2sR (HP h) (.slice (some ⟨i, 0, none⟩) 1 c) = b2s1 h[i]? := by
  have h2 : wlj (HP h) 1 1 (.slice (some ⟨i, 0, none⟩) 1 c) = elems1 h[i]? := by
    show (match whh (HP h) ⟨i, 0, none⟩ 1 with
      | some b => some (slotsOf b.cells 0 1)
      | none => none) = _
    unfold whh
    rw [wyh h hh]
    cases h[i]? with
    | none => rfl
    | some b => cases b <;> rfl
  show (match wlj (HP h) 1 1 (.slice (some ⟨i, 0, none⟩) 1 c) with
    | some l => bif l.all isU8 then val (.string ⟨(l.map toU8).toArray⟩) else .none
    | none => .none) = _
  rw [h2]
  rfl
theorem b2s_X {x : Nat} {t z : Nat} {pf : Bool} (hx : x < 256) : b2s1 (some (X [.int .u8 (x : Nat)] t z pf)) = val (str [UInt8.ofNat x]) := by
  show (bif (Nat.blt x 256 && true) then val (.string ⟨#[UInt8.ofNat x]⟩) else .none) = _
  rw [nblt, decide_eq_true hx]
  rfl
def tb (k : Nat) : Nat := [97, 98, 97, 99, 98, 46, 97, 32].getD k 0
theorem tb_get {k : Nat} (h : k < 8) : ([.int .u8 97, .int .u8 98, .int .u8 97, .int .u8 99, .int .u8 98, .int .u8 46, .int .u8 97, .int .u8 32] : List Value)[k]? = some (.int .u8 (tb k)) := by
  rcases (show k = 0 ∨ k = 1 ∨ k = 2 ∨ k = 3 ∨ k = 4 ∨ k = 5 ∨ k = 6 ∨ k = 7 by omega) with rfl | rfl | rfl | rfl | rfl | rfl | rfl | rfl <;> rfl
theorem tb_lt (k : Nat) : tb k < 256 := by
  unfold tb
  rw [List.getD_eq_getElem?_getD]
  by_cases h : k < 8
  · rcases (show k = 0 ∨ k = 1 ∨ k = 2 ∨ k = 3 ∨ k = 4 ∨ k = 5 ∨ k = 6 ∨ k = 7 by omega) with rfl | rfl | rfl | rfl | rfl | rfl | rfl | rfl <;> decide
  · rw [List.getElem?_eq_none (by simp; omega)]; decide
def wagc (n : Int) : UInt8 := UInt8.ofNat (tb (whc n 0 7).toNat)
def wmvb (l : List Int) (most : Nat) : List UInt8 := (l.take most).map wagc
theorem wvz (n : Int) : 0 ≤ whc n 0 7 ∧ whc n 0 7 ≤ 7 := by
  unfold whc
  have := Int.emod_nonneg n (show (8 : Int) ≠ 0 by omega)
  have h5 := Int.emod_lt_of_pos n (show (0 : Int) < 8 by omega)
  rw [show (7 : Int) - 0 + 1 = 8 from rfl, Int.tmod_eq_emod]
  repeat' split
  all_goals omega
theorem wbgc (l : List Int) (most : Nat) (hm : most ≤ 1000) : ∀ (k i : Nat) (acc : List UInt8), i + k = min l.length most → acc.length ≤ i →
    lim Try.prog cfg (.loop 26 0 (wuh 0) (SE (EJ 31 G0) [(6, .int .i64 i), (5, str acc), (1, .int .i64 most), (0, FL l.length (ints l))])) (HP []) = some (.code (.exit 0) (SE (EJ 31 G0) [(5, str (acc ++ ((l.take most).drop i).map wagc))]), HP []) := by
  intro k
  induction k with
  | zero =>
    intro i acc hi ha
    rw [List.drop_of_length_le (by rw [List.length_take]; omega), List.map_nil, List.append_nil]
    refine wcb wck ?_
    unfold wzi
    by_cases h1 : (i : Int) < l.length
    · have h2 : ¬ (i : Int) < most := by omega
      (repeat' (first | (simp -implicitDefEqProofs (maxSteps := 2000000) (disch := first | with_reducible assumption | omega | (simp only [zS, zA, seval] <;> omega) | fail) only [zS, argl, insA, Go.Den.wm, wo, wu, looks, wz, wy, idOf, riA, seval, Go.Den.wh, kK, wqg, wjf, wdb, wkb, *]) | (with_reducible (first | apply z1 | apply z2 | apply z3 | apply z4) <;> intro hq <;> (try simp only [zH] at hq) <;> (try (exfalso; omega)))))
    · (repeat' (first | (simp -implicitDefEqProofs (maxSteps := 2000000) (disch := first | with_reducible assumption | omega | (simp only [zS, zA, seval] <;> omega) | fail) only [zS, argl, insA, Go.Den.wm, wo, wu, looks, wz, wy, idOf, riA, seval, Go.Den.wh, kK, wqg, wjf, wdb, wkb, *]) | (with_reducible (first | apply z1 | apply z2 | apply z3 | apply z4) <;> intro hq <;> (try simp only [zH] at hq) <;> (try (exfalso; omega)))))
  | succ k ih =>
    intro i acc hi ha
    have hlt : i < (l.take most).length := by rw [List.length_take]; omega
    rw [List.drop_eq_getElem_cons hlt, List.map_cons]
    have hg := wpu (l := l) (i := i) (by omega)
    have hv : (l.take most)[i] = l.getD i 0 := by rw [List.getElem_take, List.getD_eq_getElem?_getD, List.getElem?_eq_getElem (by omega)]; rfl
    rw [hv]
    have hw := wne (l.getD i 0) 0 7 (by omega) (by omega) (by omega)
    have hin := wvz (l.getD i 0)
    have htb := tb_get (k := (whc (l.getD i 0) 0 7).toNat) (by omega)
    have hlt2 := tb_lt (whc (l.getD i 0) 0 7).toNat
    have h1 : (i : Int) < l.length := by omega
    have h2 : (i : Int) < most := by omega
    · have h := ih (i + 1) (acc ++ [wagc (l.getD i 0)]) (by omega) (by simp; omega)
      rw [List.append_assoc, List.singleton_append] at h
      clear ih hv hlt
      unfold wagc at h ⊢
      generalize whc (l.getD i 0) 0 7 = w at *
      generalize tb w.toNat = c at *
      refine wcb wck ?_
      unfold wzi
      (repeat' (first | (simp -implicitDefEqProofs (maxSteps := 2000000) (disch := first | with_reducible assumption | omega | (simp only [zS, zA, seval] <;> omega) | fail) only [zS, argl, insA, Go.Den.wm, wo, wu, looks, wz, wy, idOf, riA, seval, Go.Den.wh, kK, wqg, wjf, wdb, wkb, b2s_HP, b2s_X, *]) | (with_reducible (first | apply z1 | apply z2 | apply z3 | apply z4) <;> intro hq <;> (try simp only [zH] at hq) <;> (try (exfalso; omega)))))
      exact h
theorem ev_Text (l : List Int) (most : Nat) (hm : most ≤ 1000) : lim Try.prog cfg (.call 26 [FL l.length (ints l), .int .i64 most]) (HP []) = some (.val (str (wmvb l most)), HP []) := by
  have h := wbgc l most hm (min l.length most) 0 [] (by omega) (by simp)
  rw [List.drop_zero, List.nil_append, show ((0 : Nat) : Int) = 0 from rfl] at h
  refine wib hc wir (Nat.le_of_ble_eq_true rfl) (Nat.le_of_ble_eq_true rfl) ?_
  unfold wgn
  show _ = some (Out.val (str ((l.take most).map wagc)), HP [])
  (repeat' (first | (simp -implicitDefEqProofs (maxSteps := 2000000) (disch := first | with_reducible assumption | omega | (simp only [zS, zA, seval] <;> omega) | fail) only [zS, argl, insA, Go.Den.wm, wo, wu, looks, wz, wy, idOf, riA, seval, Go.Den.wh, kK, wqg, wjf, *]) | (with_reducible (first | apply z1 | apply z2 | apply z3 | apply z4) <;> intro hq <;> (try simp only [zH] at hq) <;> (try (exfalso; omega)))))
end
end Go.Proofs.Ytdbhfmdndiphcaa
namespace Go.Proofs.Ytdbhfmdndiphcaa
set_option linter.unusedVariables false
set_option linter.unusedSimpArgs false
open Go.Den
noncomputable section
abbrev bsB (z s : BitVec 256) : List ABlk := [X (setC z) 44 0 true, X (setC s) 44 0 true]
theorem wjd {a b c d e : Value} {s : BitVec 256} : wm [a, b, c, d, e] 0 (setC s) = [wdV s 0, wdV s 1, wdV s 2, wdV s 3, e] := rfl
end
end Go.Proofs.Ytdbhfmdndiphcaa
namespace Go.Proofs.Ytdbhfmdndiphcaa
set_option linter.unusedVariables false
set_option linter.unusedSimpArgs false
open Go.Den
noncomputable section
abbrev mkB (ks ns : List Int) (ere : Bool) : List Value := [FL ks.length (ints ks), FL ns.length (ints ns), .bool ere, .pointer (some ⟨0, 0, none⟩), .pointer (some ⟨1, 0, none⟩), .pointer (some ⟨2, 0, none⟩)]
abbrev mkH (a g l : Int) : List ABlk := [X [.int .i64 a] 3 0 true, X [.int .i64 g] 3 0 true, X [.int .i64 l] 3 0 true]
def wxk (ks : List Int) (a : Nat) : Int := if a < ks.length ∧ a < 30 then ks.getD a 0 else 0
def weg (ns : List Int) (a : Nat) : Int := if 0 < ns.length then ns.getD (a % ns.length) 0 else 0
set_option maxHeartbeats 4000000 in
theorem wwz (ks ns : List Int) (ere : Bool) (a : Nat) (ha : a ≤ 1000000) (g l : Int) : lim Try.prog cfg (.call 76 [.agg ⟨mkB ks ns ere⟩]) (HP (mkH a g l)) = some (.val (.tuple ⟨[.int .i64 (wxk ks a), .int .i64 (weg ns a)]⟩), HP (mkH (a + 1 : Nat) g l)) := by
  refine wib hc wdm (Nat.le_of_ble_eq_true rfl) (Nat.le_of_ble_eq_true rfl) ?_
  unfold wpj wxk weg
  have hx : ∃ x, (if a < ks.length ∧ a < 30 then ks.getD a 0 else 0) = x := ⟨_, rfl⟩
  have e0 : ((a + 1 : Nat) : Int) = (a : Int) + 1 := by omega
  by_cases hn : 0 < ns.length
  · rw [if_pos hn]
    obtain ⟨q, hq⟩ : ∃ q, a % ns.length = q := ⟨_, rfl⟩
    have hq1 : (a : Int) % (ns.length : Int) = (q : Int) := by omega
    have hq2 : q < ns.length := by rw [← hq]; exact Nat.mod_lt _ hn
    have hq3 : q ≤ a := by rw [← hq]; exact Nat.mod_le _ _
    rw [hq]
    have hg := wpu hq2
    clear hq hx
    by_cases h1 : a < ks.length
    · by_cases h2 : a < 30
      · rw [if_pos ⟨h1, h2⟩]
        have hk := wpu h1
        (repeat' (first | (simp -implicitDefEqProofs (maxSteps := 2000000) (disch := first | with_reducible assumption | omega | (simp only [zS, zA, seval] <;> omega) | fail) only [zS, argl, insA, Go.Den.wm, wo, wu, looks, wz, wy, idOf, riA, seval, Go.Den.wh, kK, wjf, wdb, wkb, *]) | (with_reducible (first | apply z1 | apply z2 | apply z3 | apply z4) <;> intro hq <;> (try simp only [zH] at hq) <;> (try (exfalso; omega))) | (with_reducible apply z5; (case hl => (repeat (first | exact .nil | with_reducible apply z6 | with_reducible apply z7))); (case h => kernel_rfl))))
      · rw [if_neg (fun h => h2 h.2)]
        (repeat' (first | (simp -implicitDefEqProofs (maxSteps := 2000000) (disch := first | with_reducible assumption | omega | (simp only [zS, zA, seval] <;> omega) | fail) only [zS, argl, insA, Go.Den.wm, wo, wu, looks, wz, wy, idOf, riA, seval, Go.Den.wh, kK, wjf, wdb, wkb, *]) | (with_reducible (first | apply z1 | apply z2 | apply z3 | apply z4) <;> intro hq <;> (try simp only [zH] at hq) <;> (try (exfalso; omega))) | (with_reducible apply z5; (case hl => (repeat (first | exact .nil | with_reducible apply z6 | with_reducible apply z7))); (case h => kernel_rfl))))
    · rw [if_neg (fun h => h1 h.1)]
      (repeat' (first | (simp -implicitDefEqProofs (maxSteps := 2000000) (disch := first | with_reducible assumption | omega | (simp only [zS, zA, seval] <;> omega) | fail) only [zS, argl, insA, Go.Den.wm, wo, wu, looks, wz, wy, idOf, riA, seval, Go.Den.wh, kK, wjf, wdb, wkb, *]) | (with_reducible (first | apply z1 | apply z2 | apply z3 | apply z4) <;> intro hq <;> (try simp only [zH] at hq) <;> (try (exfalso; omega))) | (with_reducible apply z5; (case hl => (repeat (first | exact .nil | with_reducible apply z6 | with_reducible apply z7))); (case h => kernel_rfl))))
  · rw [if_neg hn]
    clear hx
    by_cases h1 : a < ks.length
    · by_cases h2 : a < 30
      · rw [if_pos ⟨h1, h2⟩]
        have hk := wpu h1
        (repeat' (first | (simp -implicitDefEqProofs (maxSteps := 2000000) (disch := first | with_reducible assumption | omega | (simp only [zS, zA, seval] <;> omega) | fail) only [zS, argl, insA, Go.Den.wm, wo, wu, looks, wz, wy, idOf, riA, seval, Go.Den.wh, kK, wjf, wdb, wkb, *]) | (with_reducible (first | apply z1 | apply z2 | apply z3 | apply z4) <;> intro hq <;> (try simp only [zH] at hq) <;> (try (exfalso; omega))) | (with_reducible apply z5; (case hl => (repeat (first | exact .nil | with_reducible apply z6 | with_reducible apply z7))); (case h => kernel_rfl))))
      · rw [if_neg (fun h => h2 h.2)]
        (repeat' (first | (simp -implicitDefEqProofs (maxSteps := 2000000) (disch := first | with_reducible assumption | omega | (simp only [zS, zA, seval] <;> omega) | fail) only [zS, argl, insA, Go.Den.wm, wo, wu, looks, wz, wy, idOf, riA, seval, Go.Den.wh, kK, wjf, wdb, wkb, *]) | (with_reducible (first | apply z1 | apply z2 | apply z3 | apply z4) <;> intro hq <;> (try simp only [zH] at hq) <;> (try (exfalso; omega))) | (with_reducible apply z5; (case hl => (repeat (first | exact .nil | with_reducible apply z6 | with_reducible apply z7))); (case h => kernel_rfl))))
    · rw [if_neg (fun h => h1 h.1)]
      (repeat' (first | (simp -implicitDefEqProofs (maxSteps := 2000000) (disch := first | with_reducible assumption | omega | (simp only [zS, zA, seval] <;> omega) | fail) only [zS, argl, insA, Go.Den.wm, wo, wu, looks, wz, wy, idOf, riA, seval, Go.Den.wh, kK, wjf, wdb, wkb, *]) | (with_reducible (first | apply z1 | apply z2 | apply z3 | apply z4) <;> intro hq <;> (try simp only [zH] at hq) <;> (try (exfalso; omega))) | (with_reducible apply z5; (case hl => (repeat (first | exact .nil | with_reducible apply z6 | with_reducible apply z7))); (case h => kernel_rfl))))
theorem wejb (s : BitVec 256) (x : Nat) (hx : x < 256) : lim Try.prog cfg (.call 146 [.int .u8 x, .pointer (some ⟨0, 0, none⟩)]) (HP [X (setC s) 44 0 true]) = some (.val (.tuple ⟨[]⟩), HP [X (setC (s ||| one x)) 44 0 true]) := by
  refine wib hc wxm (Nat.le_of_ble_eq_true rfl) (Nat.le_of_ble_eq_true rfl) ?_
  unfold wbk
  have h1 : BitVec.ofInt (IntKind.bits .u64) 1 = BitVec.ofInt (IntKind.bits .u64) (((1#64).toNat : Nat) : Int) := rfl
  have e1 : ((x : Int) / 64).toNat = x / 64 := by omega
  have e2 : ((x : Int) % 64).toNat = x % 64 := by omega
  rw [← or_one s x hx]
  have hs : IntKind.wrap .u64 (1 * 2 ^ (min (x % 64) (IntKind.bits .u64))) = ((1#64 <<< (x % 64)).toNat : Nat) := by
    have := shl_u64 (b := ((x % 64 : Nat) : Int)) (by omega) (by omega)
    rwa [Int.toNat_natCast] at this
  (repeat' (first | (simp -implicitDefEqProofs (maxSteps := 2000000) (disch := first | with_reducible assumption | omega | (simp only [zS, zA, seval, zD] <;> omega) | fail) only [zS, argl, insA, Go.Den.wm, wo, wu, looks, wz, wy, idOf, riA, seval, Go.Den.wh, kK, wnpb, wjz, *, zT]) | (with_reducible (first | apply z1 | apply z2 | apply z3 | apply z4) <;> intro hq <;> (try simp only [zH] at hq) <;> (try (exfalso; omega)))))
  rw [or_u64, setC_set _ (by omega)]
theorem hb_put : wln Try.prog 146 = true := by kernel_rfl
theorem wxz : cfg.know 146 = none := by kernel_rfl
theorem wls {i : Nat} {args : List Value} : dynA Try.prog (.func (.func 146) ⟨[]⟩ ⟨[.pointer (some ⟨i, 0, none⟩)]⟩) args = .call 146 (args ++ [.pointer (some ⟨i, 0, none⟩)]) := by
  unfold dynA
  simp only [hb_put, cond_true, List.nil_append]
def wcgc : Nat → Nat → BitVec 256 → BitVec 256
  | 0, _, s => s
  | k + 1, i, s => wcgc k (i + 1) (s ||| one i)
abbrev bsFn : Value := .func (.func 146) ⟨[]⟩ ⟨[.pointer (some ⟨1, 0, none⟩)]⟩
theorem wnvb (z : BitVec 256) : ∀ (k i : Nat) (s : BitVec 256), i + k = 256 →
    lim Try.prog cfg (.loop 126 0 (wvc 0) (SE (EJ 47 G0) [(20, .int .i64 i), (4, bsFn), (3, .pointer (some ⟨1, 0, none⟩)), (2, .pointer (some ⟨0, 0, none⟩))])) (HP (bsB z s)) = some (.code (.exit 1) (SE (EJ 47 G0) [(3, .pointer (some ⟨1, 0, none⟩)), (2, .pointer (some ⟨0, 0, none⟩))]), HP (bsB z (wcgc k i s))) := by
  intro k
  induction k with
  | zero =>
    intro i s hi
    rw [wcgc]
    refine wcb wmi ?_
    unfold wxg
    (repeat' (first | (simp -implicitDefEqProofs (maxSteps := 2000000) (disch := first | with_reducible assumption | omega | (simp only [zS, zA, seval, wme, zD] <;> omega) | fail) only [zS, argl, insA, Go.Den.wm, wo, wu, looks, wz, wy, idOf, riA, seval, Go.Den.wh, kK, wvd, *, zT]) | (with_reducible (first | apply z1 | apply z2 | apply z3 | apply z4) <;> intro hq <;> (try simp only [zH] at hq) <;> (try (exfalso; omega)))))
  | succ k ih =>
    intro i s hi
    rw [wcgc]
    have h := ih (i + 1) (s ||| one i) (by omega)
    have hp := wejb s i (by omega)
    clear ih
    refine wcb wmi ?_
    unfold wxg
    (repeat' (first | (simp -implicitDefEqProofs (maxSteps := 2000000) (disch := first | with_reducible assumption | omega | (simp only [zS, zA, seval, wme, zD] <;> omega) | fail) only [zS, argl, insA, Go.Den.wm, wo, wu, looks, wz, wy, idOf, riA, seval, Go.Den.wh, kK, wvd, wls, wxz, *, zT]) | (with_reducible (first | apply z1 | apply z2 | apply z3 | apply z4) <;> intro hq <;> (try simp only [zH] at hq) <;> (try (exfalso; omega)))))
    exact h
end
end Go.Proofs.Ytdbhfmdndiphcaa
namespace Go.Proofs.Ytdbhfmdndiphcaa
set_option linter.unusedVariables false
set_option linter.unusedSimpArgs false
open Go.Den
noncomputable section
def wfjb : Nat → Nat → BitVec 256 → BitVec 256
  | 0, _, s => s
  | k + 1, i, s => wfjb k (i + 1) (if i = 97 then s else s ||| one i)
theorem wqnb (z : BitVec 256) : ∀ (k i : Nat) (s : BitVec 256), i + k = 256 →
    lim Try.prog cfg (.loop 126 0 (wvc 1) (SE (EJ 47 G0) [(36, .int .i64 i), (4, bsFn), (3, .pointer (some ⟨1, 0, none⟩)), (2, .pointer (some ⟨0, 0, none⟩))])) (HP (bsB z s)) = some (.code (.exit 3) (SE (EJ 47 G0) [(3, .pointer (some ⟨1, 0, none⟩)), (2, .pointer (some ⟨0, 0, none⟩))]), HP (bsB z (wfjb k i s))) := by
  intro k
  induction k with
  | zero =>
    intro i s hi
    rw [wfjb]
    refine wcb wxf ?_
    unfold wef
    (repeat' (first | (simp -implicitDefEqProofs (maxSteps := 2000000) (disch := first | with_reducible assumption | omega | (simp only [zS, zA, seval, wme, zD] <;> omega) | fail) only [zS, argl, insA, Go.Den.wm, wo, wu, looks, wz, wy, idOf, riA, seval, Go.Den.wh, kK, whf, *, zT]) | (with_reducible (first | apply z1 | apply z2 | apply z3 | apply z4) <;> intro hq <;> (try simp only [zH] at hq) <;> (try (exfalso; omega)))))
  | succ k ih =>
    intro i s hi
    rw [wfjb]
    by_cases h97 : i = 97
    · rw [if_pos h97]
      have h := ih (i + 1) s (by omega)
      have h1 : (i : Int) = 97 := by omega
      clear ih
      subst h97
      refine wcb wxf ?_
      unfold wef
      (repeat' (first | (simp -implicitDefEqProofs (maxSteps := 2000000) (disch := first | with_reducible assumption | omega | (simp only [zS, zA, seval, wme, zD] <;> omega) | fail) only [zS, argl, insA, Go.Den.wm, wo, wu, looks, wz, wy, idOf, riA, seval, Go.Den.wh, kK, whf, wls, wxz, *, zT]) | (with_reducible (first | apply z1 | apply z2 | apply z3 | apply z4) <;> intro hq <;> (try simp only [zH] at hq) <;> (try (exfalso; omega)))))
      all_goals exact h
    · rw [if_neg h97]
      have h1 : ¬ (i : Int) = 97 := by omega
      have h := ih (i + 1) (s ||| one i) (by omega)
      have hp := wejb s i (by omega)
      clear ih
      refine wcb wxf ?_
      unfold wef
      (repeat' (first | (simp -implicitDefEqProofs (maxSteps := 2000000) (disch := first | with_reducible assumption | omega | (simp only [zS, zA, seval, wme, zD] <;> omega) | fail) only [zS, argl, insA, Go.Den.wm, wo, wu, looks, wz, wy, idOf, riA, seval, Go.Den.wh, kK, whf, wls, wxz, *, zT]) | (with_reducible (first | apply z1 | apply z2 | apply z3 | apply z4) <;> intro hq <;> (try simp only [zH] at hq) <;> (try (exfalso; omega)))))
      all_goals exact h
def tb6 (k : Nat) : Nat := [97, 98, 99, 46, 42, 10].getD k 0
theorem tb6_get {k : Nat} (h : k < 6) : ([.int .u8 97, .int .u8 98, .int .u8 99, .int .u8 46, .int .u8 42, .int .u8 10] : List Value)[k]? = some (.int .u8 (tb6 k)) := by
  rcases (show k = 0 ∨ k = 1 ∨ k = 2 ∨ k = 3 ∨ k = 4 ∨ k = 5 by omega) with rfl | rfl | rfl | rfl | rfl | rfl <;> rfl
theorem tb6_lt {k : Nat} (h : k < 6) : tb6 k < 256 := by
  rcases (show k = 0 ∨ k = 1 ∨ k = 2 ∨ k = 3 ∨ k = 4 ∨ k = 5 by omega) with rfl | rfl | rfl | rfl | rfl | rfl <;> decide
theorem within5 (n : Int) : 0 ≤ whc n 0 5 ∧ whc n 0 5 ≤ 5 := by
  unfold whc
  have := Int.emod_nonneg n (show (6 : Int) ≠ 0 by omega)
  have h5 := Int.emod_lt_of_pos n (show (0 : Int) < 6 by omega)
  rw [show (5 : Int) - 0 + 1 = 6 from rfl, Int.tmod_eq_emod]
  repeat' split
  all_goals omega
set_option maxHeartbeats 4000000 in
theorem wrv (n : Int) : ∃ s : BitVec 256, lim Try.prog cfg (.call 126 [.int .i64 n]) (HP []) = some (.val (.agg ⟨setC s⟩), HP []) := by
  have hb0 := wnvb 0#256 256 0 0#256 (by omega)
  have hb2 := wqnb 0#256 256 0 0#256 (by omega)
  have hw := wne (IntKind.wrap .i64 (n.tdiv 4)) 0 5 (by omega) (by omega) (by omega)
  have hw2 := wne n 0 5 (by omega) (by omega) (by omega)
  have hin := within5 n
  have hp1 := wejb 0#256 97 (by omega)
  have hp2 := wejb (0#256 ||| one 97) 98 (by omega)
  have hl := tb6_lt (k := (whc n 0 5).toNat) (by omega)
  have hp3 := wejb 0#256 (tb6 (whc n 0 5).toNat) hl
  have hg := tb6_get (k := (whc n 0 5).toNat) (by omega)
  generalize whc (IntKind.wrap .i64 (n.tdiv 4)) 0 5 = w at *
  generalize whc n 0 5 = v at *
  generalize tb6 v.toNat = c at *
  generalize wcgc 256 0 0#256 = s0 at *
  generalize wfjb 256 0 0#256 = s2 at *
  generalize 0#256 ||| one 97 ||| one 98 = s1 at *
  have hz : setC 0#256 = [.int .u64 0, .int .u64 0, .int .u64 0, .int .u64 0] := rfl
  rw [show ((0 : Nat) : Int) = 0 from rfl] at hb0 hb2
  unfold bsB at hb0 hb2
  by_cases q0 : w = 0
  · refine ⟨s0, ?_⟩
    subst q0
    clear hp1 hp2 hp3 hb2 hw2 hg
    rw [hz] at hb0
    refine wib hc wpe (Nat.le_of_ble_eq_true rfl) (Nat.le_of_ble_eq_true rfl) ?_
    unfold wle
    (repeat' (first | (simp -implicitDefEqProofs (maxSteps := 2000000) (disch := first | with_reducible assumption | omega | (simp only [zS, zA, seval, wme, zD] <;> omega) | fail) only [zS, argl, insA, Go.Den.wm, wo, wu, looks, wz, wy, idOf, riA, seval, Go.Den.wh, kK, wvd, wls, wxz, *, zT]) | (with_reducible (first | apply z1 | apply z2 | apply z3 | apply z4) <;> intro hq <;> (try simp only [zH] at hq) <;> (try (exfalso; omega)))))
  by_cases q1 : w = 1
  · refine ⟨s1, ?_⟩
    subst q1
    clear hp3 hb2 hw2 hg hb0
    refine wib hc wpe (Nat.le_of_ble_eq_true rfl) (Nat.le_of_ble_eq_true rfl) ?_
    unfold wle
    rw [hz, show ((97 : Nat) : Int) = 97 from rfl] at hp1
    rw [show ((98 : Nat) : Int) = 98 from rfl] at hp2
    (repeat' (first | (simp -implicitDefEqProofs (maxSteps := 2000000) (disch := first | with_reducible assumption | omega | (simp only [zS, zA, seval, wme, zD] <;> omega) | fail) only [zS, argl, insA, Go.Den.wm, wo, wu, looks, wz, wy, idOf, riA, seval, Go.Den.wh, kK, wvd, wls, wxz, *, zT]) | (with_reducible (first | apply z1 | apply z2 | apply z3 | apply z4) <;> intro hq <;> (try simp only [zH] at hq) <;> (try (exfalso; omega)))))
  by_cases q2 : w = 2
  · refine ⟨s2, ?_⟩
    subst q2
    clear hp1 hp2 hp3 hb0 hw2 hg
    rw [hz] at hb2
    refine wib hc wpe (Nat.le_of_ble_eq_true rfl) (Nat.le_of_ble_eq_true rfl) ?_
    unfold wle
    (repeat' (first | (simp -implicitDefEqProofs (maxSteps := 2000000) (disch := first | with_reducible assumption | omega | (simp only [zS, zA, seval, wme, zD] <;> omega) | fail) only [zS, argl, insA, Go.Den.wm, wo, wu, looks, wz, wy, idOf, riA, seval, Go.Den.wh, kK, whf, wls, wxz, *, zT]) | (with_reducible (first | apply z1 | apply z2 | apply z3 | apply z4) <;> intro hq <;> (try simp only [zH] at hq) <;> (try (exfalso; omega)))))
  refine ⟨0#256 ||| one c, ?_⟩
  clear hp1 hp2 hb0 hb2
  refine wib hc wpe (Nat.le_of_ble_eq_true rfl) (Nat.le_of_ble_eq_true rfl) ?_
  unfold wle
  rw [hz] at hp3
  (repeat' (first | (simp -implicitDefEqProofs (maxSteps := 2000000) (disch := first | with_reducible assumption | omega | (simp only [zS, zA, seval, wme, zD] <;> omega) | fail) only [zS, argl, insA, Go.Den.wm, wo, wu, looks, wz, wy, idOf, riA, seval, Go.Den.wh, kK, wvd, wls, wxz, *, zT]) | (with_reducible (first | apply z1 | apply z2 | apply z3 | apply z4) <;> intro hq <;> (try simp only [zH] at hq) <;> (try (exfalso; omega)))))
end
end Go.Proofs.Ytdbhfmdndiphcaa
namespace Go.Proofs.Ytdbhfmdndiphcaa
set_option linter.unusedVariables false
set_option linter.unusedSimpArgs false
open Go.Den
noncomputable section
def MkOk (ks ns : List Int) (ere : Bool) (f : FuncId) (args : List Value) (M : Nat) : Prop :=
  ∀ (a : Nat) (g l : Int), a + M ≤ 100000 → 0 ≤ g → g ≤ 3 → -1000000 + 2 * (M : Int) ≤ l → l ≤ 1000 →
    ∃ (r : Rx) (a' : Nat) (g' l' : Int), lim Try.prog cfg (.call f (.agg ⟨mkB ks ns ere⟩ :: args)) (HP (mkH a g l)) = some (.val (.agg ⟨rxC r⟩), HP (mkH a' g' l')) ∧ wec r ≤ M ∧ a' ≤ a + M ∧ 0 ≤ g' ∧ g' ≤ 3 ∧ l - 2 * (M : Int) ≤ l' ∧ l' ≤ l
theorem wiq (n : Int) : 0 ≤ whc n 0 2 ∧ whc n 0 2 ≤ 2 := by
  unfold whc
  have := Int.emod_nonneg n (show (3 : Int) ≠ 0 by omega)
  have h5 := Int.emod_lt_of_pos n (show (0 : Int) < 3 by omega)
  rw [show (2 : Int) - 0 + 1 = 3 from rfl, Int.tmod_eq_emod]
  repeat' split
  all_goals omega
theorem wrnb {k n : Int} {s : BitVec 256} : rxC (.mk k 0 0 n s []) = [.int .i64 k, .int .i64 0, .int .i64 0, .int .i64 n, wdV s 0, wdV s 1, wdV s 2, wdV s 3, FL 0 []] := by rw [rxC, rxsC]; rfl
theorem wto {k lo hi n : Int} {r : Rx} : rxC (.mk k lo hi n 0#256 [r]) = [.int .i64 k, .int .i64 lo, .int .i64 hi, .int .i64 n, .int .u64 0, .int .u64 0, .int .u64 0, .int .u64 0, FL 1 (rxC r)] := by rw [rxC, rxsC, rxsC, List.append_nil]; rfl
def wdgc (ks ns : List Int) (ere : Bool) (f : FuncId) (args : List Value) (M : Nat) : Prop :=
  ∀ (a : Nat) (g l : Int), a + M ≤ 100000 → 0 ≤ g → g ≤ 3 → -1000000 + 2 * (M : Int) ≤ l → l ≤ 1000 →
    ∃ (r : Rx) (a' : Nat) (g' l' : Int), lim Try.prog cfg (.call f (.agg ⟨mkB ks ns ere⟩ :: args)) (HP (mkH a g l)) = some (.val (.agg ⟨rxC r⟩), HP (mkH a' g' l')) ∧ wec r ≤ M ∧ r.kind ≠ 2 ∧ a' ≤ a + M ∧ 0 ≤ g' ∧ g' ≤ 3 ∧ l - 2 * (M : Int) ≤ l' ∧ l' ≤ l
theorem wsnb {k n : Int} : rxC (.mk k 0 0 n 0#256 []) = [.int .i64 k, .int .i64 0, .int .i64 0, .int .i64 n, .int .u64 0, .int .u64 0, .int .u64 0, .int .u64 0, FL 0 []] := by rw [rxC, rxsC]; rfl
set_option maxHeartbeats 8000000 in
theorem part_set (ks ns : List Int) (ere : Bool) (deep : Int) (hd : 0 ≤ deep) (hd2 : deep ≤ 3) (a : Nat) (ha : a ≤ 100000) (g l : Int) (hg : 0 ≤ g) (hg3 : g ≤ 3) (hl : -1000000 ≤ l) (hl2 : l ≤ 1000)
    (hno : ¬ (6 ≤ whc (wxk ks a) 0 9 ∧ 3 < l - 2 ∧ deep < 3 ∧ g < 3)) (hno2 : ¬ (whc (wxk ks a) 0 9 = 5 ∧ 0 < g)) :
    ∃ (r : Rx), lim Try.prog cfg (.call 95 [.agg ⟨mkB ks ns ere⟩, .int .i64 deep]) (HP (mkH a g l)) = some (.val (.agg ⟨rxC r⟩), HP (mkH (a + 1 : Nat) g (l - 2))) ∧ wec r ≤ 2 ∧ r.kind ≠ 2 := by
  have h1 := wwz ks ns ere a (by omega) g l
  obtain ⟨s, h2⟩ := wrv (weg ns a)
  have h3 := wne (wxk ks a) 0 9 (by omega) (by omega) (by omega)
  have h4 := wne (weg ns a) 0 2 (by omega) (by omega) (by omega)
  have h5 := wne (IntKind.wrap .i64 ((weg ns a).tdiv 8)) 0 2 (by omega) (by omega) (by omega)
  have i4 := wiq (weg ns a)
  have i5 := wiq (IntKind.wrap .i64 ((weg ns a).tdiv 8))
  generalize whc (wxk ks a) 0 9 = c at *
  generalize whc (weg ns a) 0 2 = lo at *
  generalize whc (IntKind.wrap .i64 ((weg ns a).tdiv 8)) 0 2 = up at *
  generalize wxk ks a = x at *
  generalize weg ns a = y at *
  obtain ⟨e, he⟩ : ∃ e, IntKind.wrap .i64 ((BitVec.ofInt (IntKind.bits .i64) c &&& BitVec.ofInt (IntKind.bits .i64) 1).toNat : Int) = e := ⟨_, rfl⟩
  obtain ⟨f, hf⟩ : ∃ f, IntKind.wrap .i64 ((BitVec.ofInt (IntKind.bits .i64) y &&& BitVec.ofInt (IntKind.bits .i64) 4).toNat : Int) = f := ⟨_, rfl⟩
  by_cases q : e = 0
  · refine ⟨(.mk 1 0 0 0 s []), ?_, by simp [wec, wnb], by simp [Rx.kind]⟩
    rw [wrnb]
    subst q
    clear h4 h5 i4 i5 hf
    refine wib hc wvb (Nat.le_of_ble_eq_true rfl) (Nat.le_of_ble_eq_true rfl) ?_
    unfold wac
    by_cases c6 : 6 ≤ c
    · by_cases l3 : 3 < l - 2
      · by_cases d3 : deep < 3
        · have g3 : ¬ g < 3 := fun h => hno ⟨c6, l3, d3, h⟩
          clear hno hno2
          (repeat' (first | (simp -implicitDefEqProofs (maxSteps := 2000000) (disch := first | with_reducible assumption | omega | (simp only [zS, zA, seval, wme, wig, wae, zD] <;> omega) | fail) only [zS, argl, insA, Go.Den.wm, wo, wu, looks, wz, wy, idOf, riA, seval, Go.Den.wh, kK, wdb, wkb, wjd, woc, wae, whg, wnc, *, zT]) | (with_reducible (first | apply z1 | apply z2 | apply z3 | apply z4) <;> intro hq <;> (try simp only [zH] at hq) <;> (try (exfalso; omega))) | (with_reducible apply z5; (case hl => (repeat (first | exact .nil | with_reducible apply z6 | with_reducible apply z7))); (case h => kernel_rfl))))
        · clear hno hno2
          (repeat' (first | (simp -implicitDefEqProofs (maxSteps := 2000000) (disch := first | with_reducible assumption | omega | (simp only [zS, zA, seval, wme, wig, wae, zD] <;> omega) | fail) only [zS, argl, insA, Go.Den.wm, wo, wu, looks, wz, wy, idOf, riA, seval, Go.Den.wh, kK, wdb, wkb, wjd, woc, wae, whg, wnc, *, zT]) | (with_reducible (first | apply z1 | apply z2 | apply z3 | apply z4) <;> intro hq <;> (try simp only [zH] at hq) <;> (try (exfalso; omega))) | (with_reducible apply z5; (case hl => (repeat (first | exact .nil | with_reducible apply z6 | with_reducible apply z7))); (case h => kernel_rfl))))
      · clear hno hno2
        (repeat' (first | (simp -implicitDefEqProofs (maxSteps := 2000000) (disch := first | with_reducible assumption | omega | (simp only [zS, zA, seval, wme, wig, wae, zD] <;> omega) | fail) only [zS, argl, insA, Go.Den.wm, wo, wu, looks, wz, wy, idOf, riA, seval, Go.Den.wh, kK, wdb, wkb, wjd, woc, wae, whg, wnc, *, zT]) | (with_reducible (first | apply z1 | apply z2 | apply z3 | apply z4) <;> intro hq <;> (try simp only [zH] at hq) <;> (try (exfalso; omega))) | (with_reducible apply z5; (case hl => (repeat (first | exact .nil | with_reducible apply z6 | with_reducible apply z7))); (case h => kernel_rfl))))
    · clear hno
      by_cases c5 : c = 5
      · have g0 : ¬ 0 < g := fun h => hno2 ⟨c5, h⟩
        clear hno2
        subst c5
        (repeat' (first | (simp -implicitDefEqProofs (maxSteps := 2000000) (disch := first | with_reducible assumption | omega | (simp only [zS, zA, seval, wme, wig, wae, zD] <;> omega) | fail) only [zS, argl, insA, Go.Den.wm, wo, wu, looks, wz, wy, idOf, riA, seval, Go.Den.wh, kK, wdb, wkb, wjd, woc, wae, whg, wnc, *, zT]) | (with_reducible (first | apply z1 | apply z2 | apply z3 | apply z4) <;> intro hq <;> (try simp only [zH] at hq) <;> (try (exfalso; omega))) | (with_reducible apply z5; (case hl => (repeat (first | exact .nil | with_reducible apply z6 | with_reducible apply z7))); (case h => kernel_rfl))))
      · clear hno2
        (repeat' (first | (simp -implicitDefEqProofs (maxSteps := 2000000) (disch := first | with_reducible assumption | omega | (simp only [zS, zA, seval, wme, wig, wae, zD] <;> omega) | fail) only [zS, argl, insA, Go.Den.wm, wo, wu, looks, wz, wy, idOf, riA, seval, Go.Den.wh, kK, wdb, wkb, wjd, woc, wae, whg, wnc, *, zT]) | (with_reducible (first | apply z1 | apply z2 | apply z3 | apply z4) <;> intro hq <;> (try simp only [zH] at hq) <;> (try (exfalso; omega))) | (with_reducible apply z5; (case hl => (repeat (first | exact .nil | with_reducible apply z6 | with_reducible apply z7))); (case h => kernel_rfl))))
  by_cases f4 : f = 4
  · refine ⟨.mk 4 lo (max lo 1 + up) 0 0#256 [(.mk 1 0 0 0 s [])], ?_, by simp [wec, wnb], by simp [Rx.kind]⟩
    rw [wto, wrnb]
    subst f4
    refine wib hc wvb (Nat.le_of_ble_eq_true rfl) (Nat.le_of_ble_eq_true rfl) ?_
    unfold wac
    by_cases c6 : 6 ≤ c
    · by_cases l3 : 3 < l - 2
      · by_cases d3 : deep < 3
        · have g3 : ¬ g < 3 := fun h => hno ⟨c6, l3, d3, h⟩
          clear hno hno2
          (repeat' (first | (simp -implicitDefEqProofs (maxSteps := 2000000) (disch := first | with_reducible assumption | omega | (simp only [zS, zA, seval, wme, wig, wae, zD] <;> omega) | fail) only [zS, argl, insA, Go.Den.wm, wo, wu, looks, wz, wy, idOf, riA, seval, Go.Den.wh, kK, wdb, wkb, wjd, woc, wae, whg, wnc, *, zT]) | (with_reducible (first | apply z1 | apply z2 | apply z3 | apply z4) <;> intro hq <;> (try simp only [zH] at hq) <;> (try (exfalso; omega))) | (with_reducible apply z5; (case hl => (repeat (first | exact .nil | with_reducible apply z6 | with_reducible apply z7))); (case h => kernel_rfl))))
        · clear hno hno2
          (repeat' (first | (simp -implicitDefEqProofs (maxSteps := 2000000) (disch := first | with_reducible assumption | omega | (simp only [zS, zA, seval, wme, wig, wae, zD] <;> omega) | fail) only [zS, argl, insA, Go.Den.wm, wo, wu, looks, wz, wy, idOf, riA, seval, Go.Den.wh, kK, wdb, wkb, wjd, woc, wae, whg, wnc, *, zT]) | (with_reducible (first | apply z1 | apply z2 | apply z3 | apply z4) <;> intro hq <;> (try simp only [zH] at hq) <;> (try (exfalso; omega))) | (with_reducible apply z5; (case hl => (repeat (first | exact .nil | with_reducible apply z6 | with_reducible apply z7))); (case h => kernel_rfl))))
      · clear hno hno2
        (repeat' (first | (simp -implicitDefEqProofs (maxSteps := 2000000) (disch := first | with_reducible assumption | omega | (simp only [zS, zA, seval, wme, wig, wae, zD] <;> omega) | fail) only [zS, argl, insA, Go.Den.wm, wo, wu, looks, wz, wy, idOf, riA, seval, Go.Den.wh, kK, wdb, wkb, wjd, woc, wae, whg, wnc, *, zT]) | (with_reducible (first | apply z1 | apply z2 | apply z3 | apply z4) <;> intro hq <;> (try simp only [zH] at hq) <;> (try (exfalso; omega))) | (with_reducible apply z5; (case hl => (repeat (first | exact .nil | with_reducible apply z6 | with_reducible apply z7))); (case h => kernel_rfl))))
    · clear hno
      by_cases c5 : c = 5
      · have g0 : ¬ 0 < g := fun h => hno2 ⟨c5, h⟩
        clear hno2
        subst c5
        (repeat' (first | (simp -implicitDefEqProofs (maxSteps := 2000000) (disch := first | with_reducible assumption | omega | (simp only [zS, zA, seval, wme, wig, wae, zD] <;> omega) | fail) only [zS, argl, insA, Go.Den.wm, wo, wu, looks, wz, wy, idOf, riA, seval, Go.Den.wh, kK, wdb, wkb, wjd, woc, wae, whg, wnc, *, zT]) | (with_reducible (first | apply z1 | apply z2 | apply z3 | apply z4) <;> intro hq <;> (try simp only [zH] at hq) <;> (try (exfalso; omega))) | (with_reducible apply z5; (case hl => (repeat (first | exact .nil | with_reducible apply z6 | with_reducible apply z7))); (case h => kernel_rfl))))
      · clear hno2
        (repeat' (first | (simp -implicitDefEqProofs (maxSteps := 2000000) (disch := first | with_reducible assumption | omega | (simp only [zS, zA, seval, wme, wig, wae, zD] <;> omega) | fail) only [zS, argl, insA, Go.Den.wm, wo, wu, looks, wz, wy, idOf, riA, seval, Go.Den.wh, kK, wdb, wkb, wjd, woc, wae, whg, wnc, *, zT]) | (with_reducible (first | apply z1 | apply z2 | apply z3 | apply z4) <;> intro hq <;> (try simp only [zH] at hq) <;> (try (exfalso; omega))) | (with_reducible apply z5; (case hl => (repeat (first | exact .nil | with_reducible apply z6 | with_reducible apply z7))); (case h => kernel_rfl))))
  refine ⟨.mk 4 lo (-1) 0 0#256 [(.mk 1 0 0 0 s [])], ?_, by simp [wec, wnb], by simp [Rx.kind]⟩
  rw [wto, wrnb]
  clear h5 i5
  refine wib hc wvb (Nat.le_of_ble_eq_true rfl) (Nat.le_of_ble_eq_true rfl) ?_
  unfold wac
  by_cases c6 : 6 ≤ c
  · by_cases l3 : 3 < l - 2
    · by_cases d3 : deep < 3
      · have g3 : ¬ g < 3 := fun h => hno ⟨c6, l3, d3, h⟩
        clear hno hno2
        (repeat' (first | (simp -implicitDefEqProofs (maxSteps := 2000000) (disch := first | with_reducible assumption | omega | (simp only [zS, zA, seval, wme, wig, wae, zD] <;> omega) | fail) only [zS, argl, insA, Go.Den.wm, wo, wu, looks, wz, wy, idOf, riA, seval, Go.Den.wh, kK, wdb, wkb, wjd, woc, wae, whg, wnc, *, zT]) | (with_reducible (first | apply z1 | apply z2 | apply z3 | apply z4) <;> intro hq <;> (try simp only [zH] at hq) <;> (try (exfalso; omega))) | (with_reducible apply z5; (case hl => (repeat (first | exact .nil | with_reducible apply z6 | with_reducible apply z7))); (case h => kernel_rfl))))
      · clear hno hno2
        (repeat' (first | (simp -implicitDefEqProofs (maxSteps := 2000000) (disch := first | with_reducible assumption | omega | (simp only [zS, zA, seval, wme, wig, wae, zD] <;> omega) | fail) only [zS, argl, insA, Go.Den.wm, wo, wu, looks, wz, wy, idOf, riA, seval, Go.Den.wh, kK, wdb, wkb, wjd, woc, wae, whg, wnc, *, zT]) | (with_reducible (first | apply z1 | apply z2 | apply z3 | apply z4) <;> intro hq <;> (try simp only [zH] at hq) <;> (try (exfalso; omega))) | (with_reducible apply z5; (case hl => (repeat (first | exact .nil | with_reducible apply z6 | with_reducible apply z7))); (case h => kernel_rfl))))
    · clear hno hno2
      (repeat' (first | (simp -implicitDefEqProofs (maxSteps := 2000000) (disch := first | with_reducible assumption | omega | (simp only [zS, zA, seval, wme, wig, wae, zD] <;> omega) | fail) only [zS, argl, insA, Go.Den.wm, wo, wu, looks, wz, wy, idOf, riA, seval, Go.Den.wh, kK, wdb, wkb, wjd, woc, wae, whg, wnc, *, zT]) | (with_reducible (first | apply z1 | apply z2 | apply z3 | apply z4) <;> intro hq <;> (try simp only [zH] at hq) <;> (try (exfalso; omega))) | (with_reducible apply z5; (case hl => (repeat (first | exact .nil | with_reducible apply z6 | with_reducible apply z7))); (case h => kernel_rfl))))
  · clear hno
    by_cases c5 : c = 5
    · have g0 : ¬ 0 < g := fun h => hno2 ⟨c5, h⟩
      clear hno2
      subst c5
      (repeat' (first | (simp -implicitDefEqProofs (maxSteps := 2000000) (disch := first | with_reducible assumption | omega | (simp only [zS, zA, seval, wme, wig, wae, zD] <;> omega) | fail) only [zS, argl, insA, Go.Den.wm, wo, wu, looks, wz, wy, idOf, riA, seval, Go.Den.wh, kK, wdb, wkb, wjd, woc, wae, whg, wnc, *, zT]) | (with_reducible (first | apply z1 | apply z2 | apply z3 | apply z4) <;> intro hq <;> (try simp only [zH] at hq) <;> (try (exfalso; omega))) | (with_reducible apply z5; (case hl => (repeat (first | exact .nil | with_reducible apply z6 | with_reducible apply z7))); (case h => kernel_rfl))))
    · clear hno2
      (repeat' (first | (simp -implicitDefEqProofs (maxSteps := 2000000) (disch := first | with_reducible assumption | omega | (simp only [zS, zA, seval, wme, wig, wae, zD] <;> omega) | fail) only [zS, argl, insA, Go.Den.wm, wo, wu, looks, wz, wy, idOf, riA, seval, Go.Den.wh, kK, wdb, wkb, wjd, woc, wae, whg, wnc, *, zT]) | (with_reducible (first | apply z1 | apply z2 | apply z3 | apply z4) <;> intro hq <;> (try simp only [zH] at hq) <;> (try (exfalso; omega))) | (with_reducible apply z5; (case hl => (repeat (first | exact .nil | with_reducible apply z6 | with_reducible apply z7))); (case h => kernel_rfl))))
end
end Go.Proofs.Ytdbhfmdndiphcaa
namespace Go.Proofs.Ytdbhfmdndiphcaa
set_option linter.unusedVariables false
set_option linter.unusedSimpArgs false
open Go.Den
noncomputable section
set_option maxHeartbeats 8000000 in
theorem wegc (ks ns : List Int) (ere : Bool) (deep : Int) (hd : 0 ≤ deep) (hd2 : deep ≤ 3) (a : Nat) (ha : a ≤ 100000) (g l : Int) (hg : 0 ≤ g) (hg3 : g ≤ 3) (hl : -1000000 ≤ l) (hl2 : l ≤ 1000)
    (hyes : whc (wxk ks a) 0 9 = 5 ∧ 0 < g) :
    ∃ (r : Rx), lim Try.prog cfg (.call 95 [.agg ⟨mkB ks ns ere⟩, .int .i64 deep]) (HP (mkH a g l)) = some (.val (.agg ⟨rxC r⟩), HP (mkH (a + 1 : Nat) g (l - 2))) ∧ wec r ≤ 2 ∧ r.kind ≠ 2 := by
  have h1 := wwz ks ns ere a (by omega) g l
  obtain ⟨s, h2⟩ := wrv (weg ns a)
  have h3 := wne (wxk ks a) 0 9 (by omega) (by omega) (by omega)
  have h4 := wne (weg ns a) 0 2 (by omega) (by omega) (by omega)
  have h5 := wne (IntKind.wrap .i64 ((weg ns a).tdiv 8)) 0 2 (by omega) (by omega) (by omega)
  have i4 := wiq (weg ns a)
  have i5 := wiq (IntKind.wrap .i64 ((weg ns a).tdiv 8))
  have h6 := wne (weg ns a) 1 g (by omega) (by omega) (by omega)
  generalize whc (weg ns a) 1 g = qq at *
  generalize whc (wxk ks a) 0 9 = c at *
  generalize whc (weg ns a) 0 2 = lo at *
  generalize whc (IntKind.wrap .i64 ((weg ns a).tdiv 8)) 0 2 = up at *
  generalize wxk ks a = x at *
  generalize weg ns a = y at *
  obtain ⟨e, he⟩ : ∃ e, IntKind.wrap .i64 ((BitVec.ofInt (IntKind.bits .i64) c &&& BitVec.ofInt (IntKind.bits .i64) 1).toNat : Int) = e := ⟨_, rfl⟩
  obtain ⟨f, hf⟩ : ∃ f, IntKind.wrap .i64 ((BitVec.ofInt (IntKind.bits .i64) y &&& BitVec.ofInt (IntKind.bits .i64) 4).toNat : Int) = f := ⟨_, rfl⟩
  obtain ⟨c5, g0⟩ := hyes
  subst c5
  by_cases q : e = 0
  · refine ⟨(.mk 6 0 0 qq 0#256 []), ?_, by simp [wec, wnb], by simp [Rx.kind]⟩
    rw [wsnb]
    subst q
    clear h4 h5 i4 i5 hf
    refine wib hc wvb (Nat.le_of_ble_eq_true rfl) (Nat.le_of_ble_eq_true rfl) ?_
    unfold wac
    all_goals (repeat' (first | (simp -implicitDefEqProofs (maxSteps := 2000000) (disch := first | with_reducible assumption | omega | (simp only [zS, zA, seval, wme, wig, wae, zD] <;> omega) | fail) only [zS, argl, insA, Go.Den.wm, wo, wu, looks, wz, wy, idOf, riA, seval, Go.Den.wh, kK, wdb, wkb, wjd, woc, wae, whg, wnc, *, zT]) | (with_reducible (first | apply z1 | apply z2 | apply z3 | apply z4) <;> intro hq <;> (try simp only [zH] at hq) <;> (try (exfalso; omega))) | (with_reducible apply z5; (case hl => (repeat (first | exact .nil | with_reducible apply z6 | with_reducible apply z7))); (case h => kernel_rfl))))
  by_cases f4 : f = 4
  · refine ⟨.mk 4 lo (max lo 1 + up) 0 0#256 [(.mk 6 0 0 qq 0#256 [])], ?_, by simp [wec, wnb], by simp [Rx.kind]⟩
    rw [wto, wsnb]
    subst f4
    refine wib hc wvb (Nat.le_of_ble_eq_true rfl) (Nat.le_of_ble_eq_true rfl) ?_
    unfold wac
    all_goals (repeat' (first | (simp -implicitDefEqProofs (maxSteps := 2000000) (disch := first | with_reducible assumption | omega | (simp only [zS, zA, seval, wme, wig, wae, zD] <;> omega) | fail) only [zS, argl, insA, Go.Den.wm, wo, wu, looks, wz, wy, idOf, riA, seval, Go.Den.wh, kK, wdb, wkb, wjd, woc, wae, whg, wnc, *, zT]) | (with_reducible (first | apply z1 | apply z2 | apply z3 | apply z4) <;> intro hq <;> (try simp only [zH] at hq) <;> (try (exfalso; omega))) | (with_reducible apply z5; (case hl => (repeat (first | exact .nil | with_reducible apply z6 | with_reducible apply z7))); (case h => kernel_rfl))))
  refine ⟨.mk 4 lo (-1) 0 0#256 [(.mk 6 0 0 qq 0#256 [])], ?_, by simp [wec, wnb], by simp [Rx.kind]⟩
  rw [wto, wsnb]
  clear h5 i5
  refine wib hc wvb (Nat.le_of_ble_eq_true rfl) (Nat.le_of_ble_eq_true rfl) ?_
  unfold wac
  all_goals (repeat' (first | (simp -implicitDefEqProofs (maxSteps := 2000000) (disch := first | with_reducible assumption | omega | (simp only [zS, zA, seval, wme, wig, wae, zD] <;> omega) | fail) only [zS, argl, insA, Go.Den.wm, wo, wu, looks, wz, wy, idOf, riA, seval, Go.Den.wh, kK, wdb, wkb, wjd, woc, wae, whg, wnc, *, zT]) | (with_reducible (first | apply z1 | apply z2 | apply z3 | apply z4) <;> intro hq <;> (try simp only [zH] at hq) <;> (try (exfalso; omega))) | (with_reducible apply z5; (case hl => (repeat (first | exact .nil | with_reducible apply z6 | with_reducible apply z7))); (case h => kernel_rfl))))
end
end Go.Proofs.Ytdbhfmdndiphcaa
namespace Go.Proofs.Ytdbhfmdndiphcaa
set_option linter.unusedVariables false
set_option linter.unusedSimpArgs false
open Go.Den
noncomputable section
set_option maxHeartbeats 8000000 in
theorem wovb (ks ns : List Int) (ere : Bool) (deep : Int) (hd : 0 ≤ deep) (hd2 : deep ≤ 3) (M : Nat) (hrow : MkOk ks ns ere 57 [.int .i64 (deep + 1)] M) (a : Nat) (ha : a + M + 2 ≤ 100000) (g l : Int) (hg : 0 ≤ g) (hg3 : g ≤ 3) (hl : -1000000 + 2 * (M : Int) + 4 ≤ l) (hl2 : l ≤ 1000)
    (hyes : 6 ≤ whc (wxk ks a) 0 9 ∧ 3 < l - 2 ∧ deep < 3 ∧ g < 3) :
    ∃ (r : Rx) (a' : Nat) (g' l' : Int), lim Try.prog cfg (.call 95 [.agg ⟨mkB ks ns ere⟩, .int .i64 deep]) (HP (mkH a g l)) = some (.val (.agg ⟨rxC r⟩), HP (mkH a' g' l')) ∧ wec r ≤ M + 2 ∧ r.kind ≠ 2 ∧ a' ≤ a + M + 2 ∧ 0 ≤ g' ∧ g' ≤ 3 ∧ l - 2 * (M : Int) - 4 ≤ l' ∧ l' ≤ l := by
  obtain ⟨c6, l3, d3, g3⟩ := hyes
  obtain ⟨r0, a2, g2, l2, hr, n0, b1, b2, b3, b4, b5⟩ := hrow (a + 1) (g + 1) (l - 2) (by omega) (by omega) (by omega) (by omega) (by omega)
  clear hrow
  have h1 := wwz ks ns ere a (by omega) g l
  obtain ⟨s, h2⟩ := wrv (weg ns a)
  have h3 := wne (wxk ks a) 0 9 (by omega) (by omega) (by omega)
  have h4 := wne (weg ns a) 0 2 (by omega) (by omega) (by omega)
  have h5 := wne (IntKind.wrap .i64 ((weg ns a).tdiv 8)) 0 2 (by omega) (by omega) (by omega)
  have i4 := wiq (weg ns a)
  have i5 := wiq (IntKind.wrap .i64 ((weg ns a).tdiv 8))
  generalize whc (wxk ks a) 0 9 = c at *
  generalize whc (weg ns a) 0 2 = lo at *
  generalize whc (IntKind.wrap .i64 ((weg ns a).tdiv 8)) 0 2 = up at *
  generalize wxk ks a = x at *
  generalize weg ns a = y at *
  obtain ⟨e, he⟩ : ∃ e, IntKind.wrap .i64 ((BitVec.ofInt (IntKind.bits .i64) c &&& BitVec.ofInt (IntKind.bits .i64) 1).toNat : Int) = e := ⟨_, rfl⟩
  obtain ⟨f, hf⟩ : ∃ f, IntKind.wrap .i64 ((BitVec.ofInt (IntKind.bits .i64) y &&& BitVec.ofInt (IntKind.bits .i64) 4).toNat : Int) = f := ⟨_, rfl⟩
  by_cases q : e = 0
  · refine ⟨.mk 5 0 0 (g + 1) 0#256 [r0], a2, g2, l2, ?_, by rw [wec, wnb, wnb]; omega, by simp [Rx.kind], by omega, b2, b3, by omega, by omega⟩
    rw [wto]
    subst q
    clear h4 h5 i4 i5 hf
    refine wib hc wvb (Nat.le_of_ble_eq_true rfl) (Nat.le_of_ble_eq_true rfl) ?_
    unfold wac
    all_goals (repeat' (first | (simp -implicitDefEqProofs (maxSteps := 2000000) (disch := first | with_reducible assumption | omega | (simp only [zS, zA, seval, wme, wig, wae, zD] <;> omega) | fail) only [zS, argl, insA, Go.Den.wm, wo, wu, looks, wz, wy, idOf, riA, seval, Go.Den.wh, kK, wdb, wkb, wjd, woc, wae, whg, wnc, *, zT]) | (with_reducible (first | apply z1 | apply z2 | apply z3 | apply z4) <;> intro hq <;> (try simp only [zH] at hq) <;> (try (exfalso; omega))) | (with_reducible apply z5; (case hl => (repeat (first | exact .nil | with_reducible apply z6 | with_reducible apply z7))); (case h => kernel_rfl))))
  by_cases f4 : f = 4
  · refine ⟨.mk 4 lo (max lo 1 + up) 0 0#256 [.mk 5 0 0 (g + 1) 0#256 [r0]], a2, g2, l2, ?_, by rw [wec, wnb, wnb, wec, wnb, wnb]; omega, by simp [Rx.kind], by omega, b2, b3, by omega, by omega⟩
    rw [wto, wto]
    subst f4
    refine wib hc wvb (Nat.le_of_ble_eq_true rfl) (Nat.le_of_ble_eq_true rfl) ?_
    unfold wac
    all_goals (repeat' (first | (simp -implicitDefEqProofs (maxSteps := 2000000) (disch := first | with_reducible assumption | omega | (simp only [zS, zA, seval, wme, wig, wae, zD] <;> omega) | fail) only [zS, argl, insA, Go.Den.wm, wo, wu, looks, wz, wy, idOf, riA, seval, Go.Den.wh, kK, wdb, wkb, wjd, woc, wae, whg, wnc, *, zT]) | (with_reducible (first | apply z1 | apply z2 | apply z3 | apply z4) <;> intro hq <;> (try simp only [zH] at hq) <;> (try (exfalso; omega))) | (with_reducible apply z5; (case hl => (repeat (first | exact .nil | with_reducible apply z6 | with_reducible apply z7))); (case h => kernel_rfl))))
  refine ⟨.mk 4 lo (-1) 0 0#256 [.mk 5 0 0 (g + 1) 0#256 [r0]], a2, g2, l2, ?_, by rw [wec, wnb, wnb, wec, wnb, wnb]; omega, by simp [Rx.kind], by omega, b2, b3, by omega, by omega⟩
  rw [wto, wto]
  clear h5 i5
  refine wib hc wvb (Nat.le_of_ble_eq_true rfl) (Nat.le_of_ble_eq_true rfl) ?_
  unfold wac
  all_goals (repeat' (first | (simp -implicitDefEqProofs (maxSteps := 2000000) (disch := first | with_reducible assumption | omega | (simp only [zS, zA, seval, wme, wig, wae, zD] <;> omega) | fail) only [zS, argl, insA, Go.Den.wm, wo, wu, looks, wz, wy, idOf, riA, seval, Go.Den.wh, kK, wdb, wkb, wjd, woc, wae, whg, wnc, *, zT]) | (with_reducible (first | apply z1 | apply z2 | apply z3 | apply z4) <;> intro hq <;> (try simp only [zH] at hq) <;> (try (exfalso; omega))) | (with_reducible apply z5; (case hl => (repeat (first | exact .nil | with_reducible apply z6 | with_reducible apply z7))); (case h => kernel_rfl))))
end
end Go.Proofs.Ytdbhfmdndiphcaa
namespace Go.Proofs.Ytdbhfmdndiphcaa
set_option linter.unusedVariables false
set_option linter.unusedSimpArgs false
open Go.Den
noncomputable section
theorem whfb (ks ns : List Int) (ere : Bool) (deep : Int) (hd : 0 ≤ deep) (hd2 : deep ≤ 3) (M : Nat) (hrow : deep < 3 → MkOk ks ns ere 57 [.int .i64 (deep + 1)] M) : wdgc ks ns ere 95 [.int .i64 deep] (M + 2) := by
  intro a g l ha hg hg3 hl hl2
  by_cases h1 : 6 ≤ whc (wxk ks a) 0 9 ∧ 3 < l - 2 ∧ deep < 3 ∧ g < 3
  · obtain ⟨r, a', g', l', e, b1, nk, b2, b3, b4, b5, b6⟩ := wovb ks ns ere deep hd hd2 M (hrow h1.2.2.1) a (by omega) g l hg hg3 (by omega) hl2 h1
    exact ⟨r, a', g', l', e, b1, nk, by omega, b3, b4, by omega, b6⟩
  · by_cases h2 : whc (wxk ks a) 0 9 = 5 ∧ 0 < g
    · obtain ⟨r, e, b1, nk⟩ := wegc ks ns ere deep hd hd2 a (by omega) g l hg hg3 (by omega) hl2 h2
      exact ⟨r, a + 1, g, l - 2, e, by omega, nk, by omega, hg, hg3, by omega, by omega⟩
    · obtain ⟨r, e, b1, nk⟩ := part_set ks ns ere deep hd hd2 a (by omega) g l hg hg3 (by omega) hl2 h1 h2
      exact ⟨r, a + 1, g, l - 2, e, by omega, nk, by omega, hg, hg3, by omega, by omega⟩
abbrev rxZ : List Value := [.int .i64 0, .int .i64 0, .int .i64 0, .int .i64 0, .int .u64 0, .int .u64 0, .int .u64 0, .int .u64 0, .slice none 0 0]
abbrev ptH (ks ns : List Int) (ere : Bool) (a g l : Int) : List ABlk := mkH a g l ++ [X (mkB ks ns ere) 109 0 false, X rxZ 47 0 false]
theorem wjqb {l : List Rx} {r : Rx} : rxsC (l ++ [r]) = rxsC l ++ rxC r := by rw [wbr, wbr, List.flatMap_append]; simp
theorem whcb {l : List Rx} {r : Rx} : wnb (l ++ [r]) = wnb l + wec r := by
  induction l with
  | nil => rw [List.nil_append, wnb, wnb, wnb]; omega
  | cons a l ih => rw [List.cons_append, wnb, wnb, ih]; omega
set_option maxHeartbeats 8000000 in
theorem wtnb (ks ns : List Int) (ere : Bool) (deep n : Int) (hn : n ≤ 3) (M : Nat) (hM : M ≤ 20000) (hp : wdgc ks ns ere 95 [.int .i64 deep] M) : ∀ (k i : Nat) (out : List Rx) (a : Nat) (g l : Int), (i : Int) + k = n → out ≠ [] → (∀ x ∈ out, x.kind ≠ 2) → out.length ≤ i → a + k * M ≤ 100000 → 0 ≤ g → g ≤ 3 → -1000000 + 2 * ((k * M : Nat) : Int) ≤ l → l ≤ 1000 →
    ∃ (rs : List Rx) (a' : Nat) (g' l' : Int), lim Try.prog cfg (.loop 77 3 (wld 0) (SE (EJ 26 G0) [(9, .int .i64 i), (8, .int .i64 n), (7, FO 5 out.length (rxsC out)), (6, .pointer (some ⟨4, 0, none⟩)), (3, .pointer (some ⟨3, 0, none⟩)), (1, .int .i64 deep)])) (HP (ptH ks ns ere a g l ++ [.tok out.length 47 9]))
      = some (.code (.exit 0) (SE (EJ 26 G0) [(7, FO 4 rs.length (rxsC rs)), (6, .pointer (some ⟨3, 0, none⟩))]), HP (mkH a' g' l' ++ [X rxZ 47 0 false, .tok rs.length 47 9]))
      ∧ rs.length = out.length + k ∧ (∀ x ∈ rs, x.kind ≠ 2) ∧ wnb rs ≤ wnb out + k * M ∧ a' ≤ a + k * M ∧ 0 ≤ g' ∧ g' ≤ 3 ∧ l - 2 * ((k * M : Nat) : Int) ≤ l' ∧ l' ≤ l := by
  intro k
  induction k with
  | zero =>
    intro i out a g l hi ho hk2 hlen ha hg hg3 hl hl2
    refine ⟨out, a, g, l, ?_, by omega, hk2, by omega, by omega, hg, hg3, by omega, by omega⟩
    clear hp hk2
    refine wcb wje ?_
    unfold wtd
    (repeat' (first | (simp -implicitDefEqProofs (maxSteps := 2000000) (disch := first | with_reducible assumption | omega | (simp only [zS, zA, seval, zD] <;> omega) | fail) only [zS, argl, insA, Go.Den.wm, wo, wu, looks, wz, wy, idOf, riA, seval, Go.Den.wh, kK, wdd, *, zT]) | (with_reducible (first | apply z1 | apply z2 | apply z3 | apply z4) <;> intro hq <;> (try simp only [zH] at hq) <;> (try (exfalso; omega)))))
  | succ k ih =>
    intro i out a g l hi ho hk2 hlen ha hg hg3 hl hl2
    rw [Nat.succ_mul] at ha hl ⊢
    obtain ⟨r, a1, g1, l1, e1, n1, nk, b1, b2, b3, b4, b5⟩ := hp a g l (by omega) hg hg3 (by omega) hl2
    obtain ⟨rs, a2, g2, l2, e2, n2, nks, n3, c1, c2, c3, c4, c5⟩ := ih (i + 1) (out ++ [r]) a1 g1 l1 (by omega) (by simp) (fun x hx => by rcases List.mem_append.1 hx with h | h; exact hk2 x h; rw [List.mem_singleton] at h; subst h; exact nk) (by simp; omega) (by omega) b2 b3 (by omega) (by omega)
    rw [whcb] at n3
    rw [List.length_append, List.length_singleton] at n2
    refine ⟨rs, a2, g2, l2, ?_, by omega, nks, by omega, by omega, c2, c3, by omega, by omega⟩
    rw [show (out ++ [r]).length = out.length + 1 by simp, wjqb] at e2
    clear hp ih n1 b1 b4 b5 n2 n3 c1 c4 c5 nk nks hk2
    refine wcb wje ?_
    unfold wtd
    (repeat' (first | (simp -implicitDefEqProofs (maxSteps := 2000000) (disch := first | with_reducible assumption | omega | (simp only [zS, zA, seval, zD] <;> omega) | fail) only [zS, argl, insA, Go.Den.wm, wo, wu, looks, wz, wy, idOf, riA, seval, Go.Den.wh, kK, wdd, *, zT]) | (with_reducible (first | apply z1 | apply z2 | apply z3 | apply z4) <;> intro hq <;> (try simp only [zH] at hq) <;> (try (exfalso; omega)))))
    all_goals first | exact e2 | trace_state
end
end Go.Proofs.Ytdbhfmdndiphcaa
namespace Go.Proofs.Ytdbhfmdndiphcaa
set_option linter.unusedVariables false
set_option linter.unusedSimpArgs false
open Go.Den
noncomputable section
theorem wicb {r : Rx} : rxsC [r] = rxC r := by rw [rxsC, rxsC, List.append_nil]
theorem wms {k : Int} {l : List Rx} : rxC (.mk k 0 0 0 0#256 l) = [.int .i64 k, .int .i64 0, .int .i64 0, .int .i64 0, .int .u64 0, .int .u64 0, .int .u64 0, .int .u64 0, FL l.length (rxsC l)] := by rw [rxC]; rfl
set_option maxHeartbeats 8000000 in
theorem wunb (ks ns : List Int) (ere : Bool) (deep n : Int) (hn : n ≤ 3) (M : Nat) (hM : M ≤ 20000) (hp : wdgc ks ns ere 95 [.int .i64 deep] M) (k : Nat) (a : Nat) (g l : Int) (hi : (k : Int) + 1 = n) (ha : a + (k * M + M) ≤ 100000) (hg : 0 ≤ g) (hg3 : g ≤ 3) (hl : -1000000 + 2 * ((k * M + M : Nat) : Int) ≤ l) (hl2 : l ≤ 1000) :
    ∃ (rs : List Rx) (a' : Nat) (g' l' : Int), lim Try.prog cfg (.loop 77 3 (wld 0) (SE (EJ 26 G0) [(9, .int .i64 0), (8, .int .i64 n), (7, .slice none 0 0), (6, .pointer (some ⟨4, 0, none⟩)), (3, .pointer (some ⟨3, 0, none⟩)), (1, .int .i64 deep)])) (HP (ptH ks ns ere a g l))
      = some (.code (.exit 0) (SE (EJ 26 G0) [(7, FO 4 rs.length (rxsC rs)), (6, .pointer (some ⟨3, 0, none⟩))]), HP (mkH a' g' l' ++ [X rxZ 47 0 false, .tok rs.length 47 9]))
      ∧ rs.length = k + 1 ∧ (∀ x ∈ rs, x.kind ≠ 2) ∧ wnb rs ≤ k * M + M ∧ a' ≤ a + (k * M + M) ∧ 0 ≤ g' ∧ g' ≤ 3 ∧ l - 2 * ((k * M + M : Nat) : Int) ≤ l' ∧ l' ≤ l := by
  obtain ⟨r, a1, g1, l1, e1, n1, nk, b1, b2, b3, b4, b5⟩ := hp a g l (by omega) hg hg3 (by omega) hl2
  obtain ⟨rs, a2, g2, l2, e2, n2, nks, n3, c1, c2, c3, c4, c5⟩ := wtnb ks ns ere deep n hn M hM hp k 1 [r] a1 g1 l1 (by omega) (by simp) (fun x hx => by rw [List.mem_singleton] at hx; subst hx; exact nk) (by simp) (by omega) b2 b3 (by omega) (by omega)
  rw [wnb, wnb] at n3
  rw [List.length_singleton] at n2
  refine ⟨rs, a2, g2, l2, ?_, by omega, nks, by omega, by omega, c2, c3, by omega, by omega⟩
  rw [List.length_singleton, wicb, show ((1 : Nat) : Int) = 1 from rfl] at e2
  have hn0 : 0 < n := by omega
  clear hp n1 b1 b4 b5 n2 n3 c1 c4 c5 hi ha hl nk nks
  refine wcb wje ?_
  unfold wtd
  (repeat' (first | (simp -implicitDefEqProofs (maxSteps := 2000000) (disch := first | with_reducible assumption | omega | (simp only [zS, zA, seval, zD] <;> omega) | fail) only [zS, argl, insA, Go.Den.wm, wo, wu, looks, wz, wy, idOf, riA, seval, Go.Den.wh, kK, wdd, *, zT]) | (with_reducible (first | apply z1 | apply z2 | apply z3 | apply z4) <;> intro hq <;> (try simp only [zH] at hq) <;> (try (exfalso; omega)))))
  all_goals first | exact e2 | trace_state
def rxK (t n : Nat) (c : List Value) : List Value := [.int .i64 2, .int .i64 0, .int .i64 0, .int .i64 0, .int .u64 0, .int .u64 0, .int .u64 0, .int .u64 0, FO t n c]
def PkOk (ks ns : List Int) (ere : Bool) (args : List Value) (M : Nat) : Prop :=
  ∀ (a : Nat) (g l : Int), a + M ≤ 100000 → 0 ≤ g → g ≤ 3 → -1000000 + 2 * (M : Int) ≤ l → l ≤ 1000 →
    ∃ (r : Rx) (a' : Nat) (g' l' : Int), ((lim Try.prog cfg (.call 77 (.agg ⟨mkB ks ns ere⟩ :: args)) (HP (mkH a g l)) = some (.val (.agg ⟨rxC r⟩), HP (mkH a' g' l')) ∧ r.kind ≠ 2) ∨
      ∃ rs : List Rx, r = .mk 2 0 0 0 0#256 rs ∧ 2 ≤ rs.length ∧ rs.length ≤ 3 ∧ lim Try.prog cfg (.call 77 (.agg ⟨mkB ks ns ere⟩ :: args)) (HP (mkH a g l)) = some (.val (.agg ⟨rxK 3 rs.length (rxsC rs)⟩), HP (mkH a' g' l' ++ [.tok rs.length 47 9])))
      ∧ wec r ≤ M ∧ a' ≤ a + M ∧ 0 ≤ g' ∧ g' ≤ 3 ∧ l - 2 * (M : Int) ≤ l' ∧ l' ≤ l
set_option maxHeartbeats 8000000 in
theorem wifb (ks ns : List Int) (ere : Bool) (deep n : Int) (hn : n ≤ 3) (M : Nat) (hM : M ≤ 20000) (hp : wdgc ks ns ere 95 [.int .i64 deep] M) (k : Nat) (hi : (k : Int) + 1 = n) : PkOk ks ns ere [.int .i64 deep, .int .i64 n] (1 + (k * M + M)) := by
  intro a g l ha hg hg3 hl hl2
  obtain ⟨rs, a2, g2, l2, e2, n2, nks, n3, c1, c2, c3, c4, c5⟩ := wunb ks ns ere deep n hn M hM hp k a g l hi (by omega) hg hg3 (by omega) hl2
  simp only [ptH, mkH, List.cons_append, List.nil_append] at e2
  clear hp
  have hlen : rs.length ≤ 3 := by omega
  by_cases h1 : rs.length = 1
  · match rs, h1 with
    | [r], _ =>
      rw [wnb, wnb] at n3
      refine ⟨r, a2, g2, l2, .inl ⟨?_, nks r (List.mem_singleton.2 rfl)⟩, by omega, by omega, c2, c3, by omega, by omega⟩
      rw [List.length_singleton, wicb] at e2
      clear n2 n3 c1 c4 c5 hi ha hl hlen nks
      refine wib hc woh (Nat.le_of_ble_eq_true rfl) (Nat.le_of_ble_eq_true rfl) ?_
      unfold wgg
      (repeat' (first | (simp -implicitDefEqProofs (maxSteps := 2000000) (disch := first | with_reducible assumption | omega | (simp only [zS, zA, seval, wig, wae, zD] <;> omega) | fail) only [zS, argl, insA, Go.Den.wm, wo, wu, looks, wz, wy, idOf, riA, seval, Go.Den.wh, kK, wdd, woc, wae, whg, wnc, *, zT]) | (with_reducible (first | apply z1 | apply z2 | apply z3 | apply z4) <;> intro hq <;> (try simp only [zH] at hq) <;> (try (exfalso; omega)))))
  · refine ⟨.mk 2 0 0 0 0#256 rs, a2, g2, l2, .inr ⟨rs, rfl, by omega, hlen, ?_⟩, by rw [wec]; omega, by omega, c2, c3, by omega, by omega⟩
    have h2 : ¬ (rs.length : Int) = 1 := by omega
    clear n2 n3 c1 c4 c5 hi ha hl h1 nks
    simp only [rxK, mkH, List.cons_append, List.nil_append]
    refine wib hc woh (Nat.le_of_ble_eq_true rfl) (Nat.le_of_ble_eq_true rfl) ?_
    unfold wgg
    (repeat' (first | (simp -implicitDefEqProofs (maxSteps := 2000000) (disch := first | with_reducible assumption | omega | (simp only [zS, zA, seval, wig, wzo, wae, zD] <;> omega) | fail) only [zS, argl, insA, Go.Den.wm, wo, wu, looks, wz, wy, idOf, riA, seval, Go.Den.wh, kK, wdd, woc, wae, whg, wnc, *, zT]) | (with_reducible (first | apply z1 | apply z2 | apply z3 | apply z4) <;> intro hq <;> (try simp only [zH] at hq) <;> (try (exfalso; omega)))))
end
end Go.Proofs.Ytdbhfmdndiphcaa
namespace Go.Proofs.Ytdbhfmdndiphcaa
set_option linter.unusedVariables false
set_option linter.unusedSimpArgs false
open Go.Den
noncomputable section
theorem wgi {l : List Rx} : nfL (rxsC l) = rxsC l := (wzo l).2.2.2.2.2.1
theorem whi {a b : List Value} : nfL (a ++ b) = nfL a ++ nfL b := by
  induction a with
  | nil => rfl
  | cons v a ih => rw [List.cons_append, wif, wif, ih, List.cons_append]
theorem wfgc {l : List Rx} : slotsOf (rxsC l) 0 (l.length * 9) = rxsC l := by
  unfold slotsOf
  rw [List.drop_zero, ← wmv, List.take_length]
theorem rx_begin : rxC (.mk 7 0 0 0 0#256 []) = [.int .i64 7, .int .i64 0, .int .i64 0, .int .i64 0, .int .u64 0, .int .u64 0, .int .u64 0, .int .u64 0, FL 0 []] := by rw [rxC, rxsC]; rfl
theorem rx_end : rxC (.mk 8 0 0 0 0#256 []) = [.int .i64 8, .int .i64 0, .int .i64 0, .int .i64 0, .int .u64 0, .int .u64 0, .int .u64 0, .int .u64 0, FL 0 []] := by rw [rxC, rxsC]; rfl
theorem rxs_cons {r : Rx} {l : List Rx} : rxsC (r :: l) = rxC r ++ rxsC l := by rw [rxsC]
set_option maxHeartbeats 8000000 in
theorem wggc (ks ns : List Int) (ere : Bool) (deep : Int) (hd : 0 ≤ deep) (hd2 : deep ≤ 3) (M : Nat) (a : Nat) (g l : Int) (hp : PkOk ks ns ere [.int .i64 deep, .int .i64 (1 + whc (weg ns a) 0 2)] M) (ha : a + (M + 1) ≤ 100000) (hg : 0 ≤ g) (hg3 : g ≤ 3) (hl : -1000000 + 2 * (M : Int) + 2 ≤ l) (hl2 : l ≤ 1000)
    (hno : ¬ (ere = true ∧ whc (wxk ks a) 0 9 = 9 ∧ 4 < l - 1 ∧ deep < 3)) :
    ∃ (r : Rx) (a' : Nat) (g' l' : Int), lim Try.prog cfg (.call 57 [.agg ⟨mkB ks ns ere⟩, .int .i64 deep]) (HP (mkH a g l)) = some (.val (.agg ⟨rxC r⟩), HP (mkH a' g' l')) ∧ wec r ≤ M + 1 ∧ a' ≤ a + (M + 1) ∧ 0 ≤ g' ∧ g' ≤ 3 ∧ l - 2 * (M : Int) - 2 ≤ l' ∧ l' ≤ l := by
  have h1 := wwz ks ns ere a (by omega) g l
  have h3 := wne (wxk ks a) 0 9 (by omega) (by omega) (by omega)
  have h4 := wne (weg ns a) 0 2 (by omega) (by omega) (by omega)
  have i4 := wiq (weg ns a)
  generalize whc (wxk ks a) 0 9 = c at *
  generalize whc (weg ns a) 0 2 = w at *
  generalize wxk ks a = x at *
  generalize weg ns a = y at *
  obtain ⟨r, a2, g2, l2, e2, n2, b1, b2, b3, b4, b5⟩ := hp (a + 1) g (l - 1) (by omega) hg hg3 (by omega) (by omega)
  clear hp
  rcases e2 with ⟨e2, k2⟩ | ⟨rs, hr, hr2, hr3, e2⟩
  · refine ⟨r, a2, g2, l2, ?_, by omega, by omega, b2, b3, by omega, by omega⟩
    clear n2 b1 b4 b5 ha
    refine wib hc whd (Nat.le_of_ble_eq_true rfl) (Nat.le_of_ble_eq_true rfl) ?_
    unfold wfd
    cases ere with
    | false =>
      clear hno
      (repeat' (first | (simp -implicitDefEqProofs (maxSteps := 2000000) (disch := first | with_reducible assumption | omega | (simp only [zS, zA, seval, wig, zD] <;> omega) | fail) only [zS, argl, insA, Go.Den.wm, wo, wu, looks, wz, wy, idOf, riA, seval, Go.Den.wh, kK, wdb, wkb, *, zT]) | (with_reducible (first | apply z1 | apply z2 | apply z3 | apply z4) <;> intro hq <;> (try simp only [zH] at hq) <;> (try (exfalso; omega))) | (with_reducible apply z5; (case hl => (repeat (first | exact .nil | with_reducible apply z6 | with_reducible apply z7))); (case h => kernel_rfl))))
    | true =>
      by_cases c9 : c = 9
      · by_cases l4 : 4 < l - 1
        · have d3 : ¬ deep < 3 := fun h => hno ⟨rfl, c9, l4, h⟩
          clear hno
          subst c9
          (repeat' (first | (simp -implicitDefEqProofs (maxSteps := 2000000) (disch := first | with_reducible assumption | omega | (simp only [zS, zA, seval, wig, zD] <;> omega) | fail) only [zS, argl, insA, Go.Den.wm, wo, wu, looks, wz, wy, idOf, riA, seval, Go.Den.wh, kK, wdb, wkb, *, zT]) | (with_reducible (first | apply z1 | apply z2 | apply z3 | apply z4) <;> intro hq <;> (try simp only [zH] at hq) <;> (try (exfalso; omega))) | (with_reducible apply z5; (case hl => (repeat (first | exact .nil | with_reducible apply z6 | with_reducible apply z7))); (case h => kernel_rfl))))
        · clear hno
          subst c9
          (repeat' (first | (simp -implicitDefEqProofs (maxSteps := 2000000) (disch := first | with_reducible assumption | omega | (simp only [zS, zA, seval, wig, zD] <;> omega) | fail) only [zS, argl, insA, Go.Den.wm, wo, wu, looks, wz, wy, idOf, riA, seval, Go.Den.wh, kK, wdb, wkb, *, zT]) | (with_reducible (first | apply z1 | apply z2 | apply z3 | apply z4) <;> intro hq <;> (try simp only [zH] at hq) <;> (try (exfalso; omega))) | (with_reducible apply z5; (case hl => (repeat (first | exact .nil | with_reducible apply z6 | with_reducible apply z7))); (case h => kernel_rfl))))
      · clear hno
        (repeat' (first | (simp -implicitDefEqProofs (maxSteps := 2000000) (disch := first | with_reducible assumption | omega | (simp only [zS, zA, seval, wig, zD] <;> omega) | fail) only [zS, argl, insA, Go.Den.wm, wo, wu, looks, wz, wy, idOf, riA, seval, Go.Den.wh, kK, wdb, wkb, *, zT]) | (with_reducible (first | apply z1 | apply z2 | apply z3 | apply z4) <;> intro hq <;> (try simp only [zH] at hq) <;> (try (exfalso; omega))) | (with_reducible apply z5; (case hl => (repeat (first | exact .nil | with_reducible apply z6 | with_reducible apply z7))); (case h => kernel_rfl))))
  · subst hr
    rw [wec] at n2
    simp only [rxK, mkH, List.cons_append, List.nil_append] at e2
    by_cases c8 : c = 8
    · refine ⟨.mk 2 0 0 0 0#256 (.mk 7 0 0 0 0#256 [] :: rs), a2, g2, l2, ?_, by rw [wec, wnb, wec, wnb]; omega, by omega, b2, b3, by omega, by omega⟩
      rw [wms, rxs_cons, rx_begin, List.length_cons, Nat.add_comm]
      have hsl := wfgc (l := rs)
      have hcl : rs.length * 9 ≤ (rxsC rs).length := by rw [wmv]; exact Nat.le_refl _
      clear n2 b1 b4 b5 ha hno
      subst c8
      refine wib hc whd (Nat.le_of_ble_eq_true rfl) (Nat.le_of_ble_eq_true rfl) ?_
      unfold wfd
      cases ere with
      | false =>
        (repeat' (first | (simp -implicitDefEqProofs (maxSteps := 2000000) (disch := first | with_reducible assumption | omega | (simp only [zS, zA, seval, wzo, wei, wif, wcl, wjr, wfi, wgi, whi, zD] <;> omega) | fail) only [zS, argl, insA, Go.Den.wm, wo, wu, looks, wz, wy, idOf, riA, seval, Go.Den.wh, kK, wdb, wkb, wqec, wei, wif, wcl, wjr, wfi, wrm, wij, wew, wgi, whi, *, zT]) | (with_reducible (first | apply z1 | apply z2 | apply z3 | apply z4) <;> intro hq <;> (try simp only [zH] at hq) <;> (try (exfalso; omega))) | (with_reducible apply z5; (case hl => (repeat (first | exact .nil | with_reducible apply z6 | with_reducible apply z7))); (case h => kernel_rfl))))
      | true =>
        (repeat' (first | (simp -implicitDefEqProofs (maxSteps := 2000000) (disch := first | with_reducible assumption | omega | (simp only [zS, zA, seval, wzo, wei, wif, wcl, wjr, wfi, wgi, whi, zD] <;> omega) | fail) only [zS, argl, insA, Go.Den.wm, wo, wu, looks, wz, wy, idOf, riA, seval, Go.Den.wh, kK, wdb, wkb, wqec, wei, wif, wcl, wjr, wfi, wrm, wij, wew, wgi, whi, *, zT]) | (with_reducible (first | apply z1 | apply z2 | apply z3 | apply z4) <;> intro hq <;> (try simp only [zH] at hq) <;> (try (exfalso; omega))) | (with_reducible apply z5; (case hl => (repeat (first | exact .nil | with_reducible apply z6 | with_reducible apply z7))); (case h => kernel_rfl))))
    · by_cases c7 : c = 7
      · refine ⟨.mk 2 0 0 0 0#256 (rs ++ [.mk 8 0 0 0 0#256 []]), a2, g2, l2, ?_, by rw [wec, whcb, wec, wnb]; omega, by omega, b2, b3, by omega, by omega⟩
        rw [wms, wjqb, rx_end, List.length_append, List.length_singleton]
        clear n2 b1 b4 b5 ha hno
        subst c7
        refine wib hc whd (Nat.le_of_ble_eq_true rfl) (Nat.le_of_ble_eq_true rfl) ?_
        unfold wfd
        cases ere with
        | false =>
          (repeat' (first | (simp -implicitDefEqProofs (maxSteps := 2000000) (disch := first | with_reducible assumption | omega | (simp only [zS, zA, seval, wzo, wei, wif, wcl, wjr, wfi, wgi, whi, zD] <;> omega) | fail) only [zS, argl, insA, Go.Den.wm, wo, wu, looks, wz, wy, idOf, riA, seval, Go.Den.wh, kK, wdb, wkb, wei, wif, wcl, wjr, wfi, wrm, wij, wew, wgi, whi, *, zT]) | (with_reducible (first | apply z1 | apply z2 | apply z3 | apply z4) <;> intro hq <;> (try simp only [zH] at hq) <;> (try (exfalso; omega))) | (with_reducible apply z5; (case hl => (repeat (first | exact .nil | with_reducible apply z6 | with_reducible apply z7))); (case h => kernel_rfl))))
        | true =>
          (repeat' (first | (simp -implicitDefEqProofs (maxSteps := 2000000) (disch := first | with_reducible assumption | omega | (simp only [zS, zA, seval, wzo, wei, wif, wcl, wjr, wfi, wgi, whi, zD] <;> omega) | fail) only [zS, argl, insA, Go.Den.wm, wo, wu, looks, wz, wy, idOf, riA, seval, Go.Den.wh, kK, wdb, wkb, wei, wif, wcl, wjr, wfi, wrm, wij, wew, wgi, whi, *, zT]) | (with_reducible (first | apply z1 | apply z2 | apply z3 | apply z4) <;> intro hq <;> (try simp only [zH] at hq) <;> (try (exfalso; omega))) | (with_reducible apply z5; (case hl => (repeat (first | exact .nil | with_reducible apply z6 | with_reducible apply z7))); (case h => kernel_rfl))))
      · refine ⟨.mk 2 0 0 0 0#256 rs, a2, g2, l2, ?_, by rw [wec]; omega, by omega, b2, b3, by omega, by omega⟩
        rw [wms]
        clear n2 b1 b4 b5 ha
        refine wib hc whd (Nat.le_of_ble_eq_true rfl) (Nat.le_of_ble_eq_true rfl) ?_
        unfold wfd
        cases ere with
        | false =>
          clear hno
          (repeat' (first | (simp -implicitDefEqProofs (maxSteps := 2000000) (disch := first | with_reducible assumption | omega | (simp only [zS, zA, seval, wzo, wei, wif, wcl, wjr, wfi, wgi, whi, zD] <;> omega) | fail) only [zS, argl, insA, Go.Den.wm, wo, wu, looks, wz, wy, idOf, riA, seval, Go.Den.wh, kK, wdb, wkb, wei, wif, wcl, wjr, wfi, wrm, wij, wew, wgi, whi, *, zT]) | (with_reducible (first | apply z1 | apply z2 | apply z3 | apply z4) <;> intro hq <;> (try simp only [zH] at hq) <;> (try (exfalso; omega))) | (with_reducible apply z5; (case hl => (repeat (first | exact .nil | with_reducible apply z6 | with_reducible apply z7))); (case h => kernel_rfl))))
        | true =>
          by_cases c9 : c = 9
          · by_cases l4 : 4 < l - 1
            · have d3 : ¬ deep < 3 := fun h => hno ⟨rfl, c9, l4, h⟩
              clear hno
              subst c9
              (repeat' (first | (simp -implicitDefEqProofs (maxSteps := 2000000) (disch := first | with_reducible assumption | omega | (simp only [zS, zA, seval, wzo, wei, wif, wcl, wjr, wfi, wgi, whi, zD] <;> omega) | fail) only [zS, argl, insA, Go.Den.wm, wo, wu, looks, wz, wy, idOf, riA, seval, Go.Den.wh, kK, wdb, wkb, wei, wif, wcl, wjr, wfi, wrm, wij, wew, wgi, whi, *, zT]) | (with_reducible (first | apply z1 | apply z2 | apply z3 | apply z4) <;> intro hq <;> (try simp only [zH] at hq) <;> (try (exfalso; omega))) | (with_reducible apply z5; (case hl => (repeat (first | exact .nil | with_reducible apply z6 | with_reducible apply z7))); (case h => kernel_rfl))))
            · clear hno
              subst c9
              (repeat' (first | (simp -implicitDefEqProofs (maxSteps := 2000000) (disch := first | with_reducible assumption | omega | (simp only [zS, zA, seval, wzo, wei, wif, wcl, wjr, wfi, wgi, whi, zD] <;> omega) | fail) only [zS, argl, insA, Go.Den.wm, wo, wu, looks, wz, wy, idOf, riA, seval, Go.Den.wh, kK, wdb, wkb, wei, wif, wcl, wjr, wfi, wrm, wij, wew, wgi, whi, *, zT]) | (with_reducible (first | apply z1 | apply z2 | apply z3 | apply z4) <;> intro hq <;> (try simp only [zH] at hq) <;> (try (exfalso; omega))) | (with_reducible apply z5; (case hl => (repeat (first | exact .nil | with_reducible apply z6 | with_reducible apply z7))); (case h => kernel_rfl))))
          · clear hno
            (repeat' (first | (simp -implicitDefEqProofs (maxSteps := 2000000) (disch := first | with_reducible assumption | omega | (simp only [zS, zA, seval, wzo, wei, wif, wcl, wjr, wfi, wgi, whi, zD] <;> omega) | fail) only [zS, argl, insA, Go.Den.wm, wo, wu, looks, wz, wy, idOf, riA, seval, Go.Den.wh, kK, wdb, wkb, wei, wif, wcl, wjr, wfi, wrm, wij, wew, wgi, whi, *, zT]) | (with_reducible (first | apply z1 | apply z2 | apply z3 | apply z4) <;> intro hq <;> (try simp only [zH] at hq) <;> (try (exfalso; omega))) | (with_reducible apply z5; (case hl => (repeat (first | exact .nil | with_reducible apply z6 | with_reducible apply z7))); (case h => kernel_rfl))))
end
end Go.Proofs.Ytdbhfmdndiphcaa
namespace Go.Proofs.Ytdbhfmdndiphcaa
set_option linter.unusedVariables false
set_option linter.unusedSimpArgs false
open Go.Den
noncomputable section
theorem rxs_two {r s : Rx} : rxsC [r, s] = rxC r ++ rxC s := by rw [rxsC, rxsC, rxsC, List.append_nil]
theorem whgc {r : Rx} : wm ([.int .i64 0, .int .i64 0, .int .i64 0, .int .i64 0, .int .u64 0, .int .u64 0, .int .u64 0, .int .u64 0, .slice none 0 0, .int .i64 0, .int .i64 0, .int .i64 0, .int .i64 0, .int .u64 0, .int .u64 0, .int .u64 0, .int .u64 0, .slice none 0 0]) 0 (rxC r) = rxC r ++ rxZ := by rw [whn]; rfl
theorem over_rx9 {r s : Rx} : wm (rxC r ++ rxZ) 9 (rxC s) = rxC r ++ rxC s := by rw [whn (r := r), whn (r := s)]; rfl
theorem wjcb {r s : Rx} : wtb (rxC r ++ rxC s) = true := by rw [whn (r := r), whn (r := s)]; rfl
theorem wigc {r s : Rx} : slotsOf (rxC r ++ rxC s) 0 18 = rxC r ++ rxC s := by rw [whn (r := r), whn (r := s)]; rfl
theorem wvnb {t n : Nat} {c : List Value} : rxK t n c = [.int .i64 2, .int .i64 0, .int .i64 0, .int .i64 0, .int .u64 0, .int .u64 0, .int .u64 0, .int .u64 0, FO t n c] := rfl
set_option maxHeartbeats 8000000 in
theorem row_alt (ks ns : List Int) (deep : Int) (hd : 0 ≤ deep) (M : Nat) (a : Nat) (g l f : Int) (hf : IntKind.wrap .i64 ((BitVec.ofInt (IntKind.bits .i64) (weg ns a) &&& BitVec.ofInt (IntKind.bits .i64) 1).toNat : Int) = f) (hf2 : 0 ≤ f ∧ f ≤ 1)
    (hp : PkOk ks ns true [.int .i64 deep, .int .i64 (1 + f)] M) (hp2 : PkOk ks ns true [.int .i64 deep, .int .i64 1] M) (ha : a + (2 * M + 1) ≤ 100000) (hg : 0 ≤ g) (hg3 : g ≤ 3) (hl : -1000000 + 4 * (M : Int) + 2 ≤ l) (hl2 : l ≤ 1000)
    (c9 : whc (wxk ks a) 0 9 = 9) (l4 : 4 < l - 1) (d3 : deep < 3) :
    ∃ (r : Rx) (a' : Nat) (g' l' : Int), lim Try.prog cfg (.call 57 [.agg ⟨mkB ks ns true⟩, .int .i64 deep]) (HP (mkH a g l)) = some (.val (.agg ⟨rxC r⟩), HP (mkH a' g' l')) ∧ wec r ≤ 2 * M + 1 ∧ a' ≤ a + (2 * M + 1) ∧ 0 ≤ g' ∧ g' ≤ 3 ∧ l - 4 * (M : Int) - 2 ≤ l' ∧ l' ≤ l := by
  have h1 := wwz ks ns true a (by omega) g l
  have h3 := wne (wxk ks a) 0 9 (by omega) (by omega) (by omega)
  rw [c9] at h3
  clear c9
  generalize wxk ks a = x at *
  generalize weg ns a = y at *
  obtain ⟨r, a2, g2, l2, e2, n2, b1, b2, b3, b4, b5⟩ := hp (a + 1) g (l - 1) (by omega) hg hg3 (by omega) (by omega)
  obtain ⟨s, a3, g3, l3, e3, n3, c1, c2, c3, c4, c5⟩ := hp2 a2 g2 l2 (by omega) b2 b3 (by omega) (by omega)
  refine ⟨.mk 3 0 0 0 0#256 [r, s], a3, g3, l3, ?_, by rw [wec, wnb, wnb, wnb]; omega, by omega, c2, c3, by omega, by omega⟩
  rw [wms, rxs_two]
  clear hp hp2 n2 b1 b4 b5 n3 c1 c4 c5 ha
  refine wib hc whd (Nat.le_of_ble_eq_true rfl) (Nat.le_of_ble_eq_true rfl) ?_
  unfold wfd
  rcases e2 with ⟨e2, _⟩ | ⟨rs, rfl, _, _, e2⟩
  · rcases e3 with ⟨e3, _⟩ | ⟨ss, rfl, _, _, e3⟩
    · (repeat' (first | (simp -implicitDefEqProofs (maxSteps := 2000000) (disch := first | with_reducible assumption | omega | (simp only [zS, zA, seval, wig, wae, wjcb, zD] <;> omega) | fail) only [zS, argl, insA, Go.Den.wm, wo, wu, looks, wz, wy, idOf, riA, seval, Go.Den.wh, kK, wdb, wkb, woc, wae, whg, wnc, whgc, over_rx9, wjcb, wigc, *, zT]) | (with_reducible (first | apply z1 | apply z2 | apply z3 | apply z4) <;> intro hq <;> (try simp only [zH] at hq) <;> (try (exfalso; omega))) | (with_reducible apply z5; (case hl => (repeat (first | exact .nil | with_reducible apply z6 | with_reducible apply z7))); (case h => kernel_rfl))))
    · rw [wvnb] at e3
      rw [wms]
      simp only [mkH, List.cons_append, List.nil_append] at e3
      rw [whn (r := r)] at e2 ⊢
      (repeat' (first | (simp -implicitDefEqProofs (maxSteps := 2000000) (disch := first | with_reducible assumption | omega | (simp only [zS, zA, seval, wae, zD] <;> omega) | fail) only [zS, argl, insA, Go.Den.wm, wo, wu, looks, wz, wy, idOf, riA, seval, Go.Den.wh, kK, wdb, wkb, woc, wae, whg, wnc, *, zT]) | (with_reducible (first | apply z1 | apply z2 | apply z3 | apply z4) <;> intro hq <;> (try simp only [zH] at hq) <;> (try (exfalso; omega))) | (with_reducible apply z5; (case hl => (repeat (first | exact .nil | with_reducible apply z6 | with_reducible apply z7))); (case h => kernel_rfl))))
  · rw [wvnb] at e2
    rw [wms]
    simp only [mkH, List.cons_append, List.nil_append] at e2
    rcases e3 with ⟨e3, _⟩ | ⟨ss, rfl, _, _, e3⟩
    · rw [whn (r := s)] at e3 ⊢
      (repeat' (first | (simp -implicitDefEqProofs (maxSteps := 2000000) (disch := first | with_reducible assumption | omega | (simp only [zS, zA, seval, wae, zD] <;> omega) | fail) only [zS, argl, insA, Go.Den.wm, wo, wu, looks, wz, wy, idOf, riA, seval, Go.Den.wh, kK, wdb, wkb, woc, wae, whg, wnc, *, zT]) | (with_reducible (first | apply z1 | apply z2 | apply z3 | apply z4) <;> intro hq <;> (try simp only [zH] at hq) <;> (try (exfalso; omega))) | (with_reducible apply z5; (case hl => (repeat (first | exact .nil | with_reducible apply z6 | with_reducible apply z7))); (case h => kernel_rfl))))
    · rw [wvnb] at e3
      rw [wms]
      simp only [mkH, List.cons_append, List.nil_append] at e3
      (repeat' (first | (simp -implicitDefEqProofs (maxSteps := 2000000) (disch := first | with_reducible assumption | omega | (simp only [zS, zA, seval, wae, zD] <;> omega) | fail) only [zS, argl, insA, Go.Den.wm, wo, wu, looks, wz, wy, idOf, riA, seval, Go.Den.wh, kK, wdb, wkb, woc, wae, whg, wnc, *, zT]) | (with_reducible (first | apply z1 | apply z2 | apply z3 | apply z4) <;> intro hq <;> (try simp only [zH] at hq) <;> (try (exfalso; omega))) | (with_reducible apply z5; (case hl => (repeat (first | exact .nil | with_reducible apply z6 | with_reducible apply z7))); (case h => kernel_rfl))))
end
end Go.Proofs.Ytdbhfmdndiphcaa
namespace Go.Proofs.Ytdbhfmdndiphcaa
set_option linter.unusedVariables false
set_option linter.unusedSimpArgs false
open Go.Den
noncomputable section
theorem and1 (y : Int) : 0 ≤ IntKind.wrap .i64 ((BitVec.ofInt (IntKind.bits .i64) y &&& BitVec.ofInt (IntKind.bits .i64) 1).toNat : Int) ∧ IntKind.wrap .i64 ((BitVec.ofInt (IntKind.bits .i64) y &&& BitVec.ofInt (IntKind.bits .i64) 1).toNat : Int) ≤ 1 := by
  have h : (BitVec.ofInt (IntKind.bits .i64) y &&& BitVec.ofInt (IntKind.bits .i64) 1).toNat ≤ 1 := by
    rw [BitVec.toNat_and]
    exact Nat.le_trans Nat.and_le_right (by decide)
  rw [wrap_i64 (by omega) (by omega)]
  omega
theorem PkOk.mono {ks ns : List Int} {ere : Bool} {args : List Value} {M N : Nat} (h : PkOk ks ns ere args M) (hMN : M ≤ N) : PkOk ks ns ere args N := by
  intro a g l ha hg hg3 hl hl2
  obtain ⟨r, a', g', l', e, b1, b2, b3, b4, b5, b6⟩ := h a g l (by omega) hg hg3 (by omega) hl2
  exact ⟨r, a', g', l', e, by omega, by omega, b3, b4, by omega, b6⟩
theorem row_step (ks ns : List Int) (ere : Bool) (deep : Int) (hd : 0 ≤ deep) (hd2 : deep ≤ 3) (M : Nat) (hM : M ≤ 6000) (hp : wdgc ks ns ere 95 [.int .i64 deep] M) : MkOk ks ns ere 57 [.int .i64 deep] (6 * M + 3) := by
  have p1 : PkOk ks ns ere [.int .i64 deep, .int .i64 1] (3 * M + 1) := (wifb ks ns ere deep 1 (by omega) M (by omega) hp 0 rfl).mono (by omega)
  have p2 : PkOk ks ns ere [.int .i64 deep, .int .i64 2] (3 * M + 1) := (wifb ks ns ere deep 2 (by omega) M (by omega) hp 1 rfl).mono (by omega)
  have p3 : PkOk ks ns ere [.int .i64 deep, .int .i64 3] (3 * M + 1) := (wifb ks ns ere deep 3 (by omega) M (by omega) hp 2 rfl).mono (by omega)
  intro a g l ha hg hg3 hl hl2
  by_cases hq : ere = true ∧ whc (wxk ks a) 0 9 = 9 ∧ 4 < l - 1 ∧ deep < 3
  · obtain ⟨rfl, c9, l4, d3⟩ := hq
    obtain ⟨f0, f1⟩ := and1 (weg ns a)
    generalize hf : IntKind.wrap .i64 ((BitVec.ofInt (IntKind.bits .i64) (weg ns a) &&& BitVec.ofInt (IntKind.bits .i64) 1).toNat : Int) = f at f0 f1
    have hpf : PkOk ks ns true [.int .i64 deep, .int .i64 (1 + f)] (3 * M + 1) := by
      rcases (show f = 0 ∨ f = 1 by omega) with rfl | rfl
      · exact p1
      · exact p2
    obtain ⟨r, a', g', l', e, b1, b2, b3, b4, b5, b6⟩ := row_alt ks ns deep hd (3 * M + 1) a g l f hf ⟨f0, f1⟩ hpf p1 (by omega) hg hg3 (by omega) hl2 c9 l4 d3
    exact ⟨r, a', g', l', e, by omega, by omega, b3, b4, by omega, b6⟩
  · have hw := wiq (weg ns a)
    have hpw : PkOk ks ns ere [.int .i64 deep, .int .i64 (1 + whc (weg ns a) 0 2)] (3 * M + 1) := by
      rcases (show whc (weg ns a) 0 2 = 0 ∨ whc (weg ns a) 0 2 = 1 ∨ whc (weg ns a) 0 2 = 2 by omega) with h | h | h <;> rw [h]
      · exact p1
      · exact p2
      · exact p3
    obtain ⟨r, a', g', l', e, b1, b2, b3, b4, b5, b6⟩ := wggc ks ns ere deep hd hd2 (3 * M + 1) a g l hpw (by omega) hg hg3 (by omega) hl2 hq
    exact ⟨r, a', g', l', e, by omega, by omega, b3, b4, by omega, b6⟩
theorem ev_row0 (ks ns : List Int) (ere : Bool) : MkOk ks ns ere 57 [.int .i64 0] 3999 := by
  have r3 := row_step ks ns ere 3 (by omega) (by omega) 2 (by omega) (whfb ks ns ere 3 (by omega) (by omega) 0 (fun h => by omega))
  have r2 := row_step ks ns ere 2 (by omega) (by omega) 17 (by omega) (whfb ks ns ere 2 (by omega) (by omega) 15 (fun _ => r3))
  have r1 := row_step ks ns ere 1 (by omega) (by omega) 107 (by omega) (whfb ks ns ere 1 (by omega) (by omega) 105 (fun _ => r2))
  have r0 := row_step ks ns ere 0 (by omega) (by omega) 647 (by omega) (whfb ks ns ere 0 (by omega) (by omega) 645 (fun _ => r1))
  intro a g l ha hg hg3 hl hl2
  obtain ⟨r, a', g', l', e, b1, b2, b3, b4, b5, b6⟩ := r0 a g l (by omega) hg hg3 (by omega) hl2
  exact ⟨r, a', g', l', e, by omega, by omega, b3, b4, by omega, b6⟩
theorem ev_Rx (ks ns : List Int) (ere : Bool) : ∃ r : Rx, wec r ≤ 3999 ∧ lim Try.prog cfg (.call 25 [.agg ⟨[FL ks.length (ints ks), FL ns.length (ints ns)]⟩, .bool ere]) (HP []) = some (.val (.agg ⟨rxC r⟩), HP []) := by
  obtain ⟨r, a', g', l', e, b1, b2, b3, b4, b5, b6⟩ := ev_row0 ks ns ere 0 0 14 (by omega) (by omega) (by omega) (by omega) (by omega)
  refine ⟨r, b1, ?_⟩
  clear b1 b2 b3 b4 b5 b6
  refine wib hc wdq (Nat.le_of_ble_eq_true rfl) (Nat.le_of_ble_eq_true rfl) ?_
  unfold wom
  simp only [mkH, mkB] at e
  rw [show ((0 : Nat) : Int) = 0 from rfl] at e
  (repeat' (first | (simp -implicitDefEqProofs (maxSteps := 2000000) (disch := first | with_reducible assumption | omega | (simp only [zS, zA, seval, wig, zD] <;> omega) | fail) only [zS, argl, insA, Go.Den.wm, wo, wu, looks, wz, wy, idOf, riA, seval, Go.Den.wh, kK, *, zT]) | (with_reducible (first | apply z1 | apply z2 | apply z3 | apply z4) <;> intro hq <;> (try simp only [zH] at hq) <;> (try (exfalso; omega)))))
end
end Go.Proofs.Ytdbhfmdndiphcaa
namespace Go.Proofs.Ytdbhfmdndiphcaa
set_option linter.unusedVariables false
set_option linter.unusedSimpArgs false
open Go.Den
noncomputable section
def wns (ms : List Mt) : Int := (ms.map fun m => m.at 1 - m.at 0).sum
theorem wsu {m : Mt} {ms : List Mt} : wns (m :: ms) = m.at 1 - m.at 0 + wns ms := by unfold wns; rw [List.map_cons, List.sum_cons]
theorem wcx : wns [] = 0 := rfl
theorem fill_nil (m : Mt) (s : List UInt8) : wem m s [] = [] := rfl
theorem wjgc (m : Mt) (s : List UInt8) : wem m s [(-1, [35])] = [35] := rfl
theorem wkgc {m : Mt} {s : List UInt8} (h0 : 0 ≤ m.at 0) (h1 : m.at 0 ≤ m.at 1) (h2 : m.at 1 ≤ s.length) : wem m s [(0, [])] = (s.take (m.at 1).toNat).drop (m.at 0).toNat := by
  show wbp m s (0, []) ++ [] = _
  rw [List.append_nil]
  show wfu m s 0 = _
  unfold wfu
  rw [if_neg (by omega), if_neg (by omega)]
  show (if m.at 0 < 0 then [] else if m.at 0 > m.at 1 then [] else if m.at 1 > s.length then [] else (s.take (m.at 1).toNat).drop (m.at 0).toNat) = _
  rw [if_neg (by omega), if_neg (by omega), if_neg (by omega)]
theorem wkqb (s : List UInt8) {a b : Nat} (h : a ≤ b) : (s.take b).drop a ++ s.drop b = s.drop a := by
  have h1 : s.drop a = ((s.take b) ++ s.drop b).drop a := by rw [List.take_append_drop]
  by_cases hb : b ≤ s.length
  · rw [h1, List.drop_append_of_le_length (by rw [List.length_take]; omega)]
  · rw [List.take_of_length_le (by omega), List.drop_of_length_le (show s.length ≤ b by omega), List.append_nil]
theorem self_F (s : List UInt8) : ∀ (ms : List Mt) (a : Int), 0 ≤ a → rowF s.length a ms → wgh [(0, [])] s a ms = s.drop a.toNat := by
  intro ms
  induction ms with
  | nil => intro a _ _; rfl
  | cons m ms ih =>
    intro a ha h
    obtain ⟨r1, r2, r3, r4⟩ := h
    rw [wgh, wkgc (by omega) r2 r3, ih _ (by omega) r4, wkqb s (by omega), wkqb s (by omega)]
theorem none_F (s : List UInt8) : ∀ (ms : List Mt) (a : Int), 0 ≤ a → a ≤ s.length → rowF s.length a ms → ((wgh [] s a ms).length : Int) = s.length - a - wns ms := by
  intro ms
  induction ms with
  | nil => intro a h0 h1 _; rw [wgh, wcx, List.length_drop]; omega
  | cons m ms ih =>
    intro a h0 h1 h
    obtain ⟨r1, r2, r3, r4⟩ := h
    rw [wgh, fill_nil, List.nil_append, List.length_append, wsu, List.length_drop, List.length_take]
    have := ih (m.at 1) (by omega) r3 r4
    omega
theorem one_F (s : List UInt8) (hs : s.count 35 = 0) : ∀ (ms : List Mt) (a : Int), 0 ≤ a → a ≤ s.length → rowF s.length a ms → (wgh [(-1, [35])] s a ms).count 35 = ms.length ∧ ((wgh [(-1, [35])] s a ms).length : Int) = s.length - a - wns ms + ms.length := by
  have hd : ∀ n, (s.drop n).count 35 = 0 := fun n => Nat.le_zero.1 (hs ▸ (List.drop_sublist n s).count_le 35)
  have ht : ∀ n k, ((s.take n).drop k).count 35 = 0 := fun n k => Nat.le_zero.1 (hs ▸ ((List.drop_sublist k _).trans (List.take_sublist n s)).count_le 35)
  intro ms
  induction ms with
  | nil =>
    intro a h0 h1 _
    rw [wgh, wcx, hd, List.length_drop]
    refine ⟨rfl, ?_⟩
    rw [List.length_nil]; omega
  | cons m ms ih =>
    intro a h0 h1 h
    obtain ⟨r1, r2, r3, r4⟩ := h
    obtain ⟨i1, i2⟩ := ih (m.at 1) (by omega) r3 r4
    rw [wgh, wjgc, List.count_append, List.count_append, ht, i1, wsu, List.length_append, List.length_append, List.length_drop, List.length_take]
    refine ⟨?_, ?_⟩
    · rw [List.length_cons]; simp; omega
    · simp only [List.length_cons, List.length_nil]; omega
theorem wwnb {n : Nat} : ∀ (ms : List Mt) (a : Int), rowF n a ms → 0 ≤ wns ms := by
  intro ms
  induction ms with
  | nil => intro a _; exact Int.le_refl _
  | cons m ms ih =>
    intro a h
    obtain ⟨r1, r2, r3, r4⟩ := h
    have := ih _ r4
    rw [wsu]; omega
theorem text_no (l : List Int) (n : Nat) : (wmvb l n).count 35 = 0 := by
  rw [List.count_eq_zero]
  intro h
  unfold wmvb at h
  obtain ⟨x, _, hx⟩ := List.mem_map.1 h
  have hw := wvz x
  have : ∀ k : Nat, k < 8 → UInt8.ofNat (tb k) ≠ 35 := by decide
  exact this (whc x 0 7).toNat (by omega) hx
abbrev tlS (s x10 x12 x14 : List UInt8) (b11 b13 b15 : Bool) (ms : List Mt) (gone marks : Int) : List (Nat × Value) := [(17, .int .i64 marks), (16, .int .i64 gone), (15, .bool b15), (14, str x14), (13, .bool b13), (12, str x12), (11, .bool b11), (10, str x10), (9, FL ms.length (mtsC ms)), (8, str s), (7, .pointer (some ⟨0, 0, none⟩))]
set_option maxHeartbeats 2000000 in
theorem tl_gone (r : Rx) (s x10 x12 x14 : List UInt8) (b11 b13 b15 : Bool) (ms : List Mt) (hl : ms.length ≤ 13) : ∀ (k i : Nat) (g a : Int), i + k = ms.length → 0 ≤ a → 0 ≤ g → g ≤ a → rowF 12 a (ms.drop i) → a ≤ 12 →
    lim Try.prog cfg (.loop 11 0 (wwc 0) (SE (EJ 132 G0) ([(55, .int .i64 i), (54, .int .i64 ms.length), (53, FL ms.length (mtsC ms))] ++ tlS s x10 x12 x14 b11 b13 b15 ms g 0))) (HP [X (rxC r) 47 0 false]) = some (.code (.exit 0) (SE (EJ 132 G0) (tlS s x10 x12 x14 b11 b13 b15 ms (g + wns (ms.drop i)) 0)), HP [X (rxC r) 47 0 false]) := by
  intro k
  induction k with
  | zero =>
    intro i g a hi h0 hg hga hr ha
    clear hr
    rw [List.drop_of_length_le (by omega), wcx, Int.add_zero]
    simp only [tlS, List.cons_append, List.nil_append]
    refine wcb wni ?_
    unfold wyg
    (repeat' (first | (simp -implicitDefEqProofs (maxSteps := 2000000) (disch := first | with_reducible assumption | omega | (simp only [zS, zA, seval, wig, wse, wxe, zD] <;> omega) | fail) only [zS, argl, insA, Go.Den.wm, wo, wu, looks, wz, wy, idOf, riA, seval, Go.Den.wh, kK, wgf, wdb, wkb, *, zT]) | (with_reducible (first | apply z1 | apply z2 | apply z3 | apply z4) <;> intro hq <;> (try simp only [zH] at hq) <;> (try (exfalso; omega)))))
  | succ k ih =>
    intro i g a hi h0 hg hga hr ha
    have hlt : i < ms.length := by omega
    rw [wuz hlt] at hr ⊢
    obtain ⟨r1, r2, r3, r4⟩ := hr
    have h := ih (i + 1) (g + (ms.getD i Mt.zero).at 1 - (ms.getD i Mt.zero).at 0) _ (by omega) (by omega) (by omega) (by omega) r4 r3
    rw [wsu]
    rw [show g + (ms.getD i Mt.zero).at 1 - (ms.getD i Mt.zero).at 0 + wns (ms.drop (i + 1)) = g + ((ms.getD i Mt.zero).at 1 - (ms.getD i Mt.zero).at 0 + wns (ms.drop (i + 1))) by omega] at h
    generalize g + ((ms.getD i Mt.zero).at 1 - (ms.getD i Mt.zero).at 0 + wns (ms.drop (i + 1))) = G at h ⊢
    clear ih r4
    simp only [tlS, List.cons_append, List.nil_append] at h ⊢
    refine wcb wni ?_
    unfold wyg
    (repeat' (first | (simp -implicitDefEqProofs (maxSteps := 2000000) (disch := first | with_reducible assumption | omega | (simp only [zS, zA, seval, wig, wse, wxe, zD] <;> omega) | fail) only [zS, argl, insA, Go.Den.wm, wo, wu, looks, wz, wy, idOf, riA, seval, Go.Den.wh, kK, wgf, wdb, wkb, *, zT]) | (with_reducible (first | apply z1 | apply z2 | apply z3 | apply z4) <;> intro hq <;> (try simp only [zH] at hq) <;> (try (exfalso; omega)))))
    all_goals exact h
set_option maxHeartbeats 2000000 in
theorem tl_marks (r : Rx) (s x10 x12 x14 : List UInt8) (b11 b13 b15 : Bool) (ms : List Mt) (g : Int) (hl : x14.length ≤ 1000) : ∀ (k i : Nat) (c : Nat), i + k = x14.length → c ≤ i →
    lim Try.prog cfg (.loop 11 0 (wwc 1) (SE (EJ 132 G0) ([(71, .int .i64 i), (70, .int .i64 x14.length)] ++ tlS s x10 x12 x14 b11 b13 b15 ms g c))) (HP [X (rxC r) 47 0 false]) = some (.code (.exit 2) (SE (EJ 132 G0) [(17, .int .i64 (c + (x14.drop i).count 35 : Nat)), (16, .int .i64 g), (15, .bool b15), (13, .bool b13), (12, str x12), (11, .bool b11), (10, str x10), (9, FL ms.length (mtsC ms)), (8, str s), (7, .pointer (some ⟨0, 0, none⟩))]), HP [X (rxC r) 47 0 false]) := by
  intro k
  induction k with
  | zero =>
    intro i c hi hc
    rw [List.drop_of_length_le (by omega), List.count_nil, Nat.add_zero]
    simp only [tlS, List.cons_append, List.nil_append]
    refine wcb wyf ?_
    unfold wff
    (repeat' (first | (simp -implicitDefEqProofs (maxSteps := 2000000) (disch := first | with_reducible assumption | omega | (simp only [zS, zA, seval, wig, wse, wxe, zD] <;> omega) | fail) only [zS, argl, insA, Go.Den.wm, wo, wu, looks, wz, wy, idOf, riA, seval, Go.Den.wh, kK, wud, wdb, wkb, *, zT]) | (with_reducible (first | apply z1 | apply z2 | apply z3 | apply z4) <;> intro hq <;> (try simp only [zH] at hq) <;> (try (exfalso; omega)))))
  | succ k ih =>
    intro i c hi hc
    have hlt : i < x14.length := by omega
    have hd : x14.drop i = x14.getD i 0 :: x14.drop (i + 1) := by
      rw [List.drop_eq_getElem_cons hlt, List.getD_eq_getElem?_getD, List.getElem?_eq_getElem hlt]; rfl
    rw [hd, List.count_cons]
    by_cases hq : x14.getD i 0 = 35
    · have h := ih (i + 1) (c + 1) (by omega) (by omega)
      rw [if_pos (by rw [hq]; rfl), show c + ((x14.drop (i + 1)).count 35 + 1) = c + 1 + (x14.drop (i + 1)).count 35 by omega]
      generalize c + 1 + (x14.drop (i + 1)).count 35 = C at h ⊢
      have hn : ((x14.getD i 0).toNat : Int) = 35 := by rw [hq]; rfl
      clear ih hd hq
      simp only [tlS, List.cons_append, List.nil_append] at h ⊢
      refine wcb wyf ?_
      unfold wff
      (repeat' (first | (simp -implicitDefEqProofs (maxSteps := 2000000) (disch := first | with_reducible assumption | omega | (simp only [zS, zA, seval, wig, wse, wxe, zD] <;> omega) | fail) only [zS, argl, insA, Go.Den.wm, wo, wu, looks, wz, wy, idOf, riA, seval, Go.Den.wh, kK, wud, wdb, wkb, *, zT]) | (with_reducible (first | apply z1 | apply z2 | apply z3 | apply z4) <;> intro hq <;> (try simp only [zH] at hq) <;> (try (exfalso; omega)))))
      all_goals exact h
    · have h := ih (i + 1) c (by omega) (by omega)
      rw [if_neg (by simpa using hq), Nat.add_zero]
      generalize c + (x14.drop (i + 1)).count 35 = C at h ⊢
      have hn : ¬ ((x14.getD i 0).toNat : Int) = 35 := by
        intro he
        apply hq
        apply UInt8.toNat_inj.1
        show _ = 35
        omega
      clear ih hd hq
      simp only [tlS, List.cons_append, List.nil_append] at h ⊢
      refine wcb wyf ?_
      unfold wff
      (repeat' (first | (simp -implicitDefEqProofs (maxSteps := 2000000) (disch := first | with_reducible assumption | omega | (simp only [zS, zA, seval, wig, wse, wxe, zD] <;> omega) | fail) only [zS, argl, insA, Go.Den.wm, wo, wu, looks, wz, wy, idOf, riA, seval, Go.Den.wh, kK, wud, wdb, wkb, *, zT]) | (with_reducible (first | apply z1 | apply z2 | apply z3 | apply z4) <;> intro hq <;> (try simp only [zH] at hq) <;> (try (exfalso; omega)))))
      all_goals exact h
theorem row_mono {n m : Nat} (h : n ≤ m) : ∀ (l : List Mt) (a : Int), rowF n a l → rowF m a l := by
  intro l
  induction l with
  | nil => intro _ _; trivial
  | cons x l ih => intro a hr; exact ⟨hr.1, hr.2.1, by have := hr.2.2.1; omega, ih _ hr.2.2.2⟩
theorem wlgc (l : List Int) (n : Nat) : (wmvb l n).length ≤ n := by unfold wmvb; rw [List.length_map, List.length_take]; omega
set_option maxRecDepth 100000 in
set_option maxHeartbeats 8000000 in
theorem wpvb (ks ns text : List Int) (ere : Bool) : lim Try.prog cfg (.call 11 [.agg ⟨[FL ks.length (ints ks), FL ns.length (ints ns)]⟩, FL text.length (ints text), .bool ere]) (HP []) = some (.val (.bool true), HP []) := by
  obtain ⟨r, hn, hr⟩ := ev_Rx ks ns ere
  have h1 := ev_Text text 9 (by omega)
  have hs := wlgc text 9
  have hno := text_no text 9
  generalize wmvb text 9 = s at *
  rw [show ((9 : Nat) : Int) = 9 from rfl] at h1
  have ha := ev_All r (by omega) s (by omega)
  have hl := wiqb r s
  have hrow := wgcb (wfcb r s)
  have hs1 := wru r (by omega) s (by omega) [(0, [])] (by simp) (by simp) 0 0 rfl (by omega) true
  have hs2 := wru r (by omega) s (by omega) [] (by simp) (by simp) 0 0 rfl (by omega) true
  have hs3 := wru r (by omega) s (by omega) [(-1, [35])] (by simp) (by simp) 0 0 rfl (by omega) true
  have hs4 := wru r (by omega) s (by omega) [] (by simp) (by simp) ((allR r s).length + 1) (allR r s).length (by omega) (by omega) true
  have e4 : subR r [] s (allR r s).length true = (s, false) := by unfold subR; rw [if_pos (Nat.le_refl _)]
  rw [e4] at hs4
  clear e4
  rw [show ([(0, [])] : List Pc).length = 1 from rfl, show pcsC [(0, [])] = [.int .i64 0, str []] from rfl] at hs1
  rw [show ([(-1, [35])] : List Pc).length = 1 from rfl, show pcsC [(-1, [35])] = [.int .i64 (-1), str [35]] from rfl] at hs3
  rw [show ([] : List Pc).length = 0 from rfl, show pcsC [] = [] from rfl] at hs2 hs4
  have hf1 := self_F s (allR r s) 0 (by omega) hrow
  have hf2 := none_F s (allR r s) 0 (by omega) (by omega) hrow
  have hf3 := one_F s hno (allR r s) 0 (by omega) (by omega) hrow
  have hg := wwnb _ _ hrow
  have hgl := tl_gone r s
  have hmk := tl_marks r s
  have hrow2 := row_mono (show s.length ≤ 12 by omega) _ _ hrow
  have ask : askF r s 0 true = allR r s := by unfold askF; rw [if_pos rfl, List.drop_zero]
  rw [show (0 : Int).toNat = 0 from rfl, List.drop_zero] at hf1
  by_cases h0 : (allR r s).length ≤ 0
  · have hnil : allR r s = [] := List.eq_nil_of_length_eq_zero (by omega)
    have e : ∀ L, subR r L s 0 true = (s, false) := fun L => by unfold subR; rw [if_pos h0]
    rw [e] at hs1 hs2 hs3
    rw [hnil] at ha hs4
    have g0 := hgl s s s false false false [] (by simp) 0 0 0 0 rfl (by omega) (by omega) (by omega) trivial (by omega)
    have m0 := hmk s s s false false false [] 0 (by omega) s.length 0 0 (by omega) (by omega)
    rw [List.drop_zero, hno] at m0
    rw [List.drop_nil, wcx, Int.add_zero] at g0
    simp only [tlS, List.cons_append, List.nil_append] at g0 m0
    rw [show ((0 : Nat) : Int) = 0 from rfl] at g0 m0
    rw [show (([] : List Mt).length : Int) = 0 from rfl] at g0 hs4
    rw [show (0 : Int) + 1 = 1 from rfl] at hs4
    rw [show ([] : List Mt).length = 0 from rfl, show mtsC [] = [] from rfl] at g0 m0 ha
    have b1 : (false == false) = true := rfl
    have c0 : ((0 : Nat) : Int) = 0 := rfl
    have c2 : (s.length : Int) - 0 = s.length := Int.sub_zero _
    clear hf1 hf2 hf3 hg hgl hmk hrow hrow2 ask h0 hnil e hno hn hl
    refine wib hc wqj (Nat.le_of_ble_eq_true rfl) (Nat.le_of_ble_eq_true rfl) ?_
    unfold wdi
    (repeat' (first | (simp -implicitDefEqProofs (maxSteps := 2000000) (disch := first | with_reducible assumption | omega | (simp only [zS, zA, seval, wig, wse, wxe, zD] <;> omega) | fail) only [zS, argl, insA, Go.Den.wm, wo, wu, looks, wz, wy, idOf, riA, seval, Go.Den.wh, kK, wgf, wud, wdb, wkb, wjf, *, zT]) | (with_reducible (first | apply z1 | apply z2 | apply z3 | apply z4) <;> intro hq <;> (try simp only [zH] at hq) <;> (try (exfalso; omega)))))
  · have l1 : ¬ 400 < (wgh [(0, [])] s 0 (allR r s)).length := by rw [hf1]; omega
    have l2 : ¬ 400 < (wgh [] s 0 (allR r s)).length := by omega
    have l3 : ¬ 400 < (wgh [(-1, [35])] s 0 (allR r s)).length := by omega
    have e1 : subR r [(0, [])] s 0 true = (s, true) := by unfold subR; rw [if_neg h0, ask, if_neg l1, hf1]
    have e2 : subR r [] s 0 true = (wgh [] s 0 (allR r s), true) := by unfold subR; rw [if_neg h0, ask, if_neg l2]
    have e3 : subR r [(-1, [35])] s 0 true = (wgh [(-1, [35])] s 0 (allR r s), true) := by unfold subR; rw [if_neg h0, ask, if_neg l3]
    rw [e1] at hs1
    rw [e2] at hs2
    rw [e3] at hs3
    obtain ⟨hf3, hf4⟩ := hf3
    have hlen3 : (wgh [(-1, [35])] s 0 (allR r s)).length ≤ 1000 := by omega
    generalize wgh [] s 0 (allR r s) = x12 at *
    generalize wgh [(-1, [35])] s 0 (allR r s) = x14 at *
    have g0 := hgl s x12 x14 true true true (allR r s) (by omega) (allR r s).length 0 0 0 (by omega) (by omega) (by omega) (by omega) (by rw [List.drop_zero]; exact hrow2) (by omega)
    have m0 := hmk s x12 x14 true true true (allR r s) (wns (allR r s)) hlen3 x14.length 0 0 (by omega) (by omega)
    rw [List.drop_zero, hf3, Nat.zero_add] at m0
    rw [List.drop_zero, Int.zero_add] at g0
    simp only [tlS, List.cons_append, List.nil_append] at g0 m0
    rw [show ((0 : Nat) : Int) = 0 from rfl] at g0 m0
    have q2 : (x12.length : Int) = s.length - wns (allR r s) := by omega
    have hg2 : wns (allR r s) ≤ 12 := by omega
    have h00 : 0 < (allR r s).length := by omega
    clear e1 e2 e3 l1 l2 l3 hf1 hf2 hf3 hf4 hgl hmk hrow hrow2 ask h0 hno hn hlen3
    generalize wns (allR r s) = g at *
    generalize allR r s = ms at *
    have b1 : (true == true) = true := rfl
    have b2 : decide (0 < (ms.length : Int)) = true := decide_eq_true (by omega)
    refine wib hc wqj (Nat.le_of_ble_eq_true rfl) (Nat.le_of_ble_eq_true rfl) ?_
    unfold wdi
    (repeat' (first | (simp -implicitDefEqProofs (maxSteps := 2000000) (disch := first | with_reducible assumption | omega | (simp only [zS, zA, seval, wig, wse, wxe, zD] <;> omega) | fail) only [zS, argl, insA, Go.Den.wm, wo, wu, looks, wz, wy, idOf, riA, seval, Go.Den.wh, kK, wgf, wud, wdb, wkb, wjf, *, zT]) | (with_reducible (first | apply z1 | apply z2 | apply z3 | apply z4) <;> intro hq <;> (try simp only [zH] at hq) <;> (try (exfalso; omega)))))
end
end Go.Proofs.Ytdbhfmdndiphcaa
namespace Go.Den
noncomputable section
open Go.ChangeShapes Go.WideShapes Go.RowKit
variable {P : Program} {cfg : Cfg} {H : Type} {enc : TypeId × Value → H}
theorem known_ev (wsj : wfj P cfg.glob cfg.know) (hm : P.follows .mixedOrders = true) {f : FuncId} {a : List Value} {v : Value} (h : Ev P cfg (.call f a) AH0 (.val v, AH0)) (ha : wtb a = true) (hv : wde v = true) : wxn P cfg.glob f a v := by
  obtain ⟨n, h⟩ := h
  exact wbw wsj hm (h n (Nat.le_refl n)) ha hv
def renW (w : World) : Ren := ⟨fun _ _ => none, fun b i => w.cell? ⟨b, i, none⟩⟩
theorem wmgc (wsj : wfj P cfg.glob cfg.know) (hm : P.follows .mixedOrders = true) (hg : cfg.glob = fun _ => none) {f : FuncId} {a : List Value} (h : Ev P cfg (.call f a) AH0 (.val (.bool true), AH0)) (ha : wtb a = true) (w : World) (args' : Array Value) (hA : VRL (renW w) a args'.toList) :
    Calls P f args' w fun e w' => e = .returned (.bool true) ∧ w.heap.size ≤ w'.heap.size ∧ (∀ b : Nat, b < w.heap.size → w'.heap[b]? = w.heap[b]?) ∧ w'.os = w.os ∧ w'.output = w.output := by
  refine (known_ev wsj hm h ha rfl (renW w) w args' (fun _ _ _ h => h) (by rw [hg]; exact gok_none _) hA).mono ?_
  rintro e w' ⟨ρ', v', rfl, h1, _, _, _, _, h5, h2, h3, h4⟩
  rw [h1.bool_inv]
  exact ⟨rfl, h5, h2, h3, h4⟩
theorem same_at {W W' : World} (hb : ∀ b : Nat, b < W.heap.size → W'.heap[b]? = W.heap[b]?) {p : MemPlace} (hp : p.block < W.heap.size) : W.sameAt W' p := by
  cases p with
  | cell b o => exact World.cell?_of_block (w := W) (hb b hp)
  | map b => exact hb b hp
theorem wjfb (hl : laidOutB P = true) {W W' : World} (hb : ∀ b : Nat, b < W.heap.size → W'.heap[b]? = W.heap[b]?) {sp : Nat → Bool} : ∀ (ts : List TypeId) (vs : List Value) (ds : List (DataW H)) (ps : List MemPlace), (ts.all fun t => P.readableRec t && decide (t < P.types.size)) = true →
    DataW.TrodAll enc P W 0 (fun _ => true) true ts vs ds ps → (∀ p ∈ ps, p.block < W.heap.size) → (∀ p ∈ ps, sp p.block = true) → DataW.TrodAll enc P W' 0 sp true ts vs ds ps := by
  intro ts
  induction ts with
  | nil =>
    intro vs ds ps _ h _ _
    obtain ⟨rfl, rfl, rfl⟩ := trodAll_nil h
    exact trodAll_mk0
  | cons t ts ih =>
    intro vs ds ps ht h hlt hs
    obtain ⟨v, vs', d, ds', p, q, rfl, rfl, rfl, h0, h1⟩ := trodAll_cons h
    simp only [List.all_cons, Bool.and_eq_true, decide_eq_true_eq] at ht
    exact trodAll_cons_mk (WideElems.Trod_stays hl ht.1.1 ht.1.2 h0 (fun x hx => same_at hb (hlt x (List.mem_append_left _ hx))) (fun x hx => hs x (List.mem_append_left _ hx)))
      (ih vs' ds' q (by simpa using ht.2) h1 (fun x hx => hlt x (List.mem_append_right _ hx)) (fun x hx => hs x (List.mem_append_right _ hx)))
theorem law_post (hl : laidOutB P = true) {f : Func} {s : ChangeSpec} {apart fresh handsOn : Bool} {W W' : World} {args : Array Value} {ds gs : List (DataW H)} {before : List MemPlace}
    (hW : DataW.Whole enc P f.params.toList s.vars apart W args.toList ds gs before) (hvars : s.vars = []) (hbool : ∃ t, f.resultTypes = #[t] ∧ P.underlying t = some .bool)
    (hts : (f.params.toList.all fun t => P.readableRec t && decide (t < P.types.size)) = true)
    (hfn : s.fn H (ds ++ gs) = { results := [.lit (.bool true)], args := ds })
    (hs : ∀ b : Nat, b < W.heap.size → W'.heap[b]? = W.heap[b]?) (ho : W'.os = W.os) (hp : W'.output = W.output) : s.post enc P f apart fresh handsOn false W args (.bool true) W' := by
  have hW' := hW
  obtain ⟨p, q, hA, hV, rfl, hfz, hnd⟩ := hW
  rw [hvars] at hV
  obtain ⟨rfl, rfl⟩ := trodVars_none hV
  obtain ⟨t, ht, hu⟩ := hbool
  refine wdyb (pa := p) (pv := []) hW' (fun b sp hd => ?_) (fun sp hsp => ?_) (fun sp _ => ?_) rfl (kept_of hs ho hp)
  · rw [ht, hfn]
    exact trodAll_cons_mk (shut_bool hu _) trodAll_mk0
  · rw [hfn]
    exact wjfb hl hs _ _ _ _ hts hA (fun x hx => hW'.lt x (List.mem_append_left _ hx)) (fun x hx => hsp x (List.mem_append_left _ hx))
  · rw [hfn, hvars]
    exact rfl
end
end Go.Den
namespace Go.Den
noncomputable section
open Go.ChangeShapes Go.WideShapes Go.RowKit
variable {P : Program} {H : Type} {enc : TypeId × Value → H}
theorem wngc {W : World} {t e : TypeId} {k : IntKind} (ht : P.underlying t = some (.slice e)) (he : P.underlying e = some (.int k)) (hc : P.cellsOf e = 1) {r : Reach} {b0 base fuel : Nat} {sp : Nat → Bool} {held : Bool} {v : Value} {x : DataW H × List MemPlace}
    (hval : Cell.okWide P W r b0 t v) (hf : DataW.trod enc P W base sp held fuel t [v] = some x) : ∃ l : List Int, VR (renW W) (FL l.length (l.map (Value.int k))) v := by
  rcases open_ints ht he hc hf with ⟨hcs, _⟩ | ⟨a, len, cap, zs, hcs, _, hl, hm, hz, _, hcell, _⟩
  · cases hcs
    exact ⟨[], .listNo⟩
  · cases hcs
    have hsp : a.spot = none := by
      simp only [Cell.okWide, ht, Cell.ok] at hval
      exact hval.2.2.2.1
    obtain ⟨blk, off, spot⟩ := a
    subst hsp
    have hlz : len ≤ zs.length := by rw [hz]; split <;> omega
    have hlen : (zs.take len).length = len := by rw [List.length_take]; omega
    refine ⟨zs.take len, ?_⟩
    rw [hlen]
    refine VR.list (a' := ⟨blk, off, none⟩) hl (fun i => .int k (zs.getD i 0)) (fun i hi => ?_) (fun i v hv => ?_)
    · rw [List.length_map, hlen] at hi
      have := hcell i (by omega)
      rw [show (⟨blk, off, none⟩ : Addr).add i = ⟨blk, off + i, none⟩ by unfold Addr.add; split <;> simp_all] at this
      exact this
    · rw [List.getElem?_map] at hv
      have hi : i < len := by
        have := (List.getElem?_eq_some_iff.1 (show ((zs.take len).map (Value.int k))[i]? = some v by rw [List.getElem?_map]; exact hv)).1
        rw [List.length_map, hlen] at this; exact this
      rw [List.getElem?_take, if_pos hi, List.getElem?_eq_getElem (by omega)] at hv
      cases hv
      rw [List.getD_eq_getElem?_getD, List.getElem?_eq_getElem (by omega)]
      exact .flat rfl
theorem wogc {W : World} {t e : TypeId} {k : IntKind} (ht : P.underlying t = some (.slice e)) (he : P.underlying e = some (.int k)) (hc : P.cellsOf e = 1) {r : Reach} {b0 base : Nat} {sp : Nat → Bool} {held : Bool} {v : Value} {d : DataW H} {ps : List MemPlace}
    (hval : Value.okWide P W r b0 t v) (hd : DataW.Trod enc P W base sp held t v d ps) : ∃ l : List Int, VR (renW W) (FL l.length (l.map (Value.int k))) v := by
  obtain ⟨a, len, cap, rfl⟩ := okWide_slice ht hval
  obtain ⟨fuel, hf⟩ := hd
  simp only [Value.okWide, ht] at hval
  exact wngc ht he hc hval hf
theorem open_two {W : World} {t e : TypeId} {f0 f1 : Field} {k : IntKind} (ht : P.underlying t = some (.struct #[f0, f1])) (o0 : f0.offset = 0) (o1 : f1.offset = 1) (hsz : P.cellsOf t = 2) (c0 : P.cellsOf f0.type = 1) (c1 : P.cellsOf f1.type = 1) (u0 : P.underlying f0.type = some (.slice e)) (u1 : P.underlying f1.type = some (.slice e)) (he : P.underlying e = some (.int k)) (hc : P.cellsOf e = 1) (hct : P.cellTypes P.depth t = some [f0.type, f1.type])
    {r : Reach} {b0 base : Nat} {sp : Nat → Bool} {held : Bool} {v : Value} {d : DataW H} {ps : List MemPlace}
    (hval : Value.okWide P W r b0 t v) (hd : DataW.Trod enc P W base sp held t v d ps) : ∃ l1 l2 : List Int, VR (renW W) (.agg ⟨[FL l1.length (l1.map (Value.int k)), FL l2.length (l2.map (Value.int k))]⟩) v := by
  simp only [Value.okWide, ht] at hval
  obtain ⟨⟨cs⟩, rfl, hsize, ts, h1, _, hcell⟩ := hval
  rw [hct] at h1
  cases h1
  rw [hsz] at hsize
  match cs, hsize with
  | [a, b], _ =>
    obtain ⟨fuel, hf⟩ := hd
    obtain ⟨y0, y1, n, _, hl, g0, g1⟩ := trod_struct2 ht hf
    obtain ⟨ua, ea, ka⟩ := hcell 0 a rfl
    obtain ⟨ub, eb, kb⟩ := hcell 1 b rfl
    cases ea
    cases eb
    rw [o0, c0] at g0
    rw [o1, c1] at g1
    obtain ⟨l1, v1⟩ := wngc u0 he hc ka (show DataW.trod enc P W base sp held n f0.type [a] = some y0 from g0)
    obtain ⟨l2, v2⟩ := wngc u1 he hc kb (show DataW.trod enc P W base sp held n f1.type [b] = some y1 from g1)
    exact ⟨l1, l2, VR.agg_mk (.cons v1 (.cons v2 (.nil _)))⟩
end
end Go.Den
