/-
  THE ENGINE FOR UNKNOWN VALUES, part W: rows that are appended to, element by element.
-/
import Derived.Test.YtdbhfmdndiphcaaE3H
namespace Go.Den
noncomputable section

/-- A row that grows: it's nothing yet, or a frozen row of its own. -/
def RowSt (elem size : Nat) (l : List ABlk) (v : Value) (n : Nat) (cs : List Value) : Prop :=
  (v = .slice none 0 0 ∧ n = 0 ∧ cs = []) ∨ ∃ t, v = FO t n cs ∧ l[t]? = some (.tok n elem size) ∧ cs.length = n * size ∧ 0 < n

theorem RowSt.sl {elem size n : Nat} {l : List ABlk} {v : Value} {cs : List Value} (h : RowSt elem size l v n cs) : Sl 0 v (FL n cs) := by
  rcases h with ⟨rfl, rfl, rfl⟩ | ⟨t, rfl, _, _, _⟩
  · exact Sl.nilS
  · exact Sl.fo t _ cs

theorem RowSt.jk {elem size n : Nat} {l : List ABlk} {v : Value} {cs : List Value} (h : RowSt elem size l v n cs) : isJK v = false := by
  rcases h with ⟨rfl, _⟩ | ⟨t, rfl, _⟩
  · rfl
  · exact isJK_FO

theorem RowSt.more {elem size n : Nat} {l : List ABlk} {v : Value} {cs : List Value} (h : RowSt elem size l v n cs) (b : ABlk) : RowSt elem size (l ++ [b]) v n cs := by
  rcases h with h | ⟨t, h1, h2, h3⟩
  · exact .inl h
  · refine .inr ⟨t, h1, ?_, h3⟩
    rw [List.getElem?_append_left (by rw [List.getElem?_eq_some_iff] at h2; exact h2.1), h2]

def isTok : ABlk → Bool
  | .tok _ _ _ => true
  | _ => false

theorem app_row {elem size bytes n k : Nat} {l : List ABlk} {v x : Value} {cs new : List Value} (h : RowSt elem size l v n cs)
    (hx : lenA x = some (k + 1)) (he : elemsA (HP l) size (k + 1) x = some new) (hn : nfL new = new) (hr : noRefsL new = true) (ho : new.all oneCell = true)
    (hlen : new.length = (k + 1) * size) (hroom : roomy (n + (k + 1)) bytes = true) (hl : l.length ≤ 1099511627774) :
    ∃ v' l', appA true (HP l) elem size bytes v x = .eff v' (HP l') ∧ RowSt elem size l' v' (n + (k + 1)) (cs ++ new) ∧ l'.length ≤ l.length + 1 ∧ l.length ≤ l'.length ∧ ∀ (j : Nat) (b : ABlk), l[j]? = some b → isTok b = false → l'[j]? = some b := by
  have e1 : appA true (HP l) elem size bytes v x = appOnto true (HP l) elem size bytes v (k + 1) new := by
    unfold appA
    rw [hx]
    simp only [he]
  rw [e1]
  rcases h with ⟨rfl, rfl, rfl⟩ | ⟨t, rfl, h2, h3, h0⟩
  · refine ⟨FO l.length (k + 1) new, l ++ [.tok (k + 1) elem size], ?_, .inr ⟨l.length, by simp, by simp, by simpa using hlen, by omega⟩, by simp, by simp, ?_⟩
    · show (bif roomy (k + 1) bytes then freshAny true (HP l) elem size new (k + 1) else .none) = _
      rw [show roomy (k + 1) bytes = true by simpa using hroom, cond_true]
      show (bif tokOk (HP l) (nfL new) then ARes.eff (FO (HP l).n (k + 1) (nfL new)) ((HP l).push (.tok (k + 1) elem size)) else .none) = _
      rw [hn, show tokOk (HP l) new = true by
        unfold tokOk
        rw [hr, ho, HP_n]
        show Nat.ble _ _ = true
        rw [Nat.ble_eq]; omega, cond_true, HP_n, HP_push]
    · intro j b hj _
      rw [List.getElem?_append_left (by rw [List.getElem?_eq_some_iff] at hj; exact hj.1), hj]
  · have ht : t < l.length := by rw [List.getElem?_eq_some_iff] at h2; exact h2.1
    refine ⟨FO t (n + (k + 1)) (cs ++ new), l.set t (.tok (n + (k + 1)) elem size), ?_, .inr ⟨t, rfl, by simp [ht], by rw [List.length_append, h3, hlen, ← Nat.add_mul], by omega⟩, by simp, by simp, ?_⟩
    · show (bif roomy (n + (k + 1)) bytes then appTok2 (HP l) elem size t n cs (nfL new) (k + 1) else .none) = _
      rw [hroom, cond_true, hn]
      unfold appTok2
      rw [HP_get l (by omega), h2]
      show (bif growOk n elem size elem size t n cs new then _ else _) = _
      rw [show growOk n elem size elem size t n cs new = true by
        unfold growOk
        rw [hr, ho, h3, show Nat.beq n n = true from Nat.beq_refl n, show Nat.beq elem elem = true from Nat.beq_refl _, show Nat.beq size size = true from Nat.beq_refl _, show Nat.beq (n * size) (n * size) = true from Nat.beq_refl _]
        show Nat.ble _ _ = true
        rw [Nat.ble_eq]; omega, cond_true, HP_set _ _ _ ht]
    · intro j b hj hb
      by_cases hjt : t = j
      · subst hjt
        rw [h2] at hj
        cases hj
        simp [isTok] at hb
      · rw [List.getElem?_set_ne hjt, hj]

theorem elems_X {cs : List Value} {elem : TypeId} {frz : Nat} {pf : Bool} {size n len c : Nat} {i : Nat} {l : List ABlk} (hl : l.length ≤ 1099511627774) (h : l[i]? = some (X cs elem frz pf)) (hn : n ≤ len) (h0 : 0 < n) (hc : n * size ≤ cs.length) :
    elemsA (HP l) size n (.slice (some ⟨i, 0, none⟩) len c) = some (slotsOf cs 0 (n * size)) := by
  unfold elemsA
  have h1 : Nat.ble n len = true := by rw [Nat.ble_eq]; exact hn
  have h2 : Nat.blt 0 n = true := by show Nat.ble 1 n = true; rw [Nat.ble_eq]; exact h0
  simp only [h1, h2, Bool.and_self, cond_true]
  rw [rd_X hl h, if_pos (by omega)]

end
end Go.Den
