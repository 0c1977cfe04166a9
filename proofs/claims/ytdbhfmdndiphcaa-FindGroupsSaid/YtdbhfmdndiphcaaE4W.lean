/-
  ROWS THAT ARE APPENDED TO, as rules.
-/
import Derived.Test.YtdbhfmdndiphcaaE4K
namespace Go.Den
noncomputable section

variable {P : Program}

/-- Onto a row: what is there is frozen cells. -/
def appN (h : List ABlk) (elem size bytes : Nat) (s : Value) (n : Nat) (new : List Value) : ARes := appOnto true (HP h) elem size bytes s n new

theorem app_FL {h : List ABlk} {elem size bytes : Nat} {s : Value} {n : Nat} {cs : List Value} (h0 : 0 < n) (hc : n * size ≤ cs.length) : appA true (HP h) elem size bytes s (FL n cs) = appN h elem size bytes s n (slotsOf cs 0 (n * size)) := by
  unfold appA
  have h1 : lenA (FL n cs) = some n := rfl
  have h2 : elemsA (HP h) size n (FL n cs) = some (cs.take (n * size)) := by
    show (bif Nat.ble n n && (Nat.blt 0 n && Nat.ble (n * size) cs.length) then some (cs.take (n * size)) else none) = _
    rw [nble, nblt, nble, decide_eq_true (Nat.le_refl n), decide_eq_true h0, decide_eq_true hc]
    rfl
  obtain ⟨m, rfl⟩ : ∃ m, n = m + 1 := ⟨n - 1, by omega⟩
  rw [h1]
  simp only [h2]
  rfl
theorem app_FL0 {h : List ABlk} {elem size bytes : Nat} {cs : List Value} : appA true (HP h) elem size bytes (.slice none 0 0) (FL 0 cs) = .eff (.slice none 0 0) (HP h) := rfl
theorem app_FO_FL0 {h : List ABlk} {elem size bytes t len : Nat} {cs ds : List Value} : appA true (HP h) elem size bytes (FO t len ds) (FL 0 cs) = .eff (FO t len ds) (HP h) := rfl

def appR (h : List ABlk) (elem size bytes : Nat) (s : Value) (n : Nat) : Option ABlk → ARes
  | some (.cells b) => bif decide (n * size ≤ b.cells.length) then appN h elem size bytes s n (slotsOf b.cells 0 (n * size)) else .none
  | _ => .none
/-- A row of known length. -/
def exactX : Option ABlk → Bool
  | some (.cells b) => isNil b.lens && Nat.beq b.wver 0
  | _ => false
theorem exactX_X {cs : List Value} {t z : Nat} {pf : Bool} : exactX (some (X cs t z pf)) = true := rfl
theorem appR_X {h : List ABlk} {elem size bytes : Nat} {s : Value} {n : Nat} {cs : List Value} {t z : Nat} {pf : Bool} (hc : n * size ≤ cs.length) : appR h elem size bytes s n (some (X cs t z pf)) = appN h elem size bytes s n (slotsOf cs 0 (n * size)) := by
  show (bif decide (n * size ≤ cs.length) then _ else _) = _
  rw [decide_eq_true hc]; rfl
theorem app_row1 {h : List ABlk} (hh : h.length ≤ 1099511627774) {elem size bytes : Nat} {s : Value} {i n c : Nat} (hx : exactX h[i]? = true) :
    appA true (HP h) elem size bytes s (.slice (some ⟨i, 0, none⟩) (n + 1) c) = appR h elem size bytes s (n + 1) h[i]? := by
  unfold appA
  have h1 : lenA (.slice (some ⟨i, 0, none⟩) (n + 1) c) = some (n + 1) := rfl
  rw [h1]
  have h2 : elemsA (HP h) size (n + 1) (.slice (some ⟨i, 0, none⟩) (n + 1) c) = match rdBlk (HP h) ⟨i, 0, none⟩ ((n + 1) * size) with
    | some b => some (slotsOf b.cells 0 ((n + 1) * size))
    | none => none := by
    show (bif Nat.ble (n + 1) (n + 1) && Nat.blt 0 (n + 1) then _ else none) = _
    rw [nble, nblt, decide_eq_true (Nat.le_refl _), decide_eq_true (Nat.succ_pos n)]
    rfl
  simp only [h2]
  unfold rdBlk
  rw [HP_get h hh]
  cases hb : h[i]? with
  | none => rw [hb] at hx; cases hx
  | some b =>
    rw [hb] at hx
    cases b with
    | cells b =>
      have hx : (isNil b.lens && Nat.beq b.wver 0) = true := hx
      simp only [Bool.and_eq_true, Nat.beq_eq] at hx
      obtain ⟨h3, h4⟩ := hx
      have h5 : b.lens = [] := by cases hl : b.lens with | nil => rfl | cons a r => rw [hl] at h3; cases h3
      have h6 : rdOk b (aver ⟨i, 0, none⟩) (0 + (n + 1) * size) = decide ((n + 1) * size ≤ b.cells.length) := by
        unfold rdOk
        have e1 : b.top = 0 := by unfold CBlk.top; rw [h5]; rfl
        have e2 : b.lenAt 0 = b.cells.length := by unfold CBlk.lenAt; rw [h5]
        rw [h4, e1]
        show (Nat.ble 0 0 && (Nat.ble 0 0 && Nat.ble (0 + (n + 1) * size) (b.lenAt 0))) = _
        rw [e2, Nat.zero_add, nble, nble]
        simp
      simp only [h6]
      by_cases hq : (n + 1) * size ≤ b.cells.length
      · simp only [decide_eq_true hq, cond_true, appR]; rfl
      · simp only [decide_eq_false hq, cond_false, appR]
    | map es => cases hx
    | tok a b c => cases hx

theorem appN_nil {h : List ABlk} (hh : h.length ≤ 1099511627774) {elem size bytes n : Nat} {new : List Value} (hn : n ≤ 16777216) (hb : bytes ≤ 1048576) (ha : atomL new = true) :
    appN h elem size bytes (.slice none 0 0) n new = .eff (FO h.length n new) (HP (h ++ [.tok n elem size])) := by
  show (bif roomy n bytes then freshAny true (HP h) elem size new n else .none) = _
  have h1 : roomy n bytes = true := by unfold roomy; rw [nble, nble, decide_eq_true hn, decide_eq_true hb]; rfl
  rw [h1, cond_true]
  show (bif tokOk (HP h) (nfL new) then ARes.eff (FO (HP h).n n (nfL new)) ((HP h).push (.tok n elem size)) else .none) = _
  rw [nfL_atom ha]
  have h2 : tokOk (HP h) new = true := by
    unfold tokOk
    rw [noRefsL_atom ha, oneL_atom ha, HP_n, okKey_le hh]; rfl
  rw [h2, cond_true, HP_n, HP_push]

def appT (h : List ABlk) (elem size t len n : Nat) (cs new : List Value) : Option ABlk → ARes
  | some (.tok m el es) => bif decide (m = len ∧ el = elem ∧ es = size) then .eff (FO t (len + n) (cs ++ new)) (HP (h.set t (.tok (len + n) elem size))) else .none
  | _ => .none
theorem appT_tok {h : List ABlk} {elem size t len n : Nat} {cs new : List Value} : appT h elem size t len n cs new (some (.tok len elem size)) = .eff (FO t (len + n) (cs ++ new)) (HP (h.set t (.tok (len + n) elem size))) := by
  simp [appT]
theorem appN_FO {h : List ABlk} (hh : h.length ≤ 1099511627774) {elem size bytes t len n : Nat} {cs new : List Value} (ht : t < h.length) (hn : len + n ≤ 16777216) (hb : bytes ≤ 1048576) (hc : cs.length = len * size) (ha : atomL new = true) :
    appN h elem size bytes (FO t len cs) n new = appT h elem size t len n cs new h[t]? := by
  show (bif roomy (len + n) bytes then appTok2 (HP h) elem size t len cs (nfL new) n else .none) = _
  have h1 : roomy (len + n) bytes = true := by unfold roomy; rw [nble, nble, decide_eq_true hn, decide_eq_true hb]; rfl
  rw [h1, cond_true, nfL_atom ha]
  unfold appTok2
  rw [HP_get h hh]
  cases hq : h[t]? with
  | none => rfl
  | some b =>
    cases b with
    | cells b => rfl
    | map es => rfl
    | tok m el es =>
      show (bif growOk m el es elem size t len cs new then _ else _) = (bif decide (m = len ∧ el = elem ∧ es = size) then _ else _)
      have h2 : growOk m el es elem size t len cs new = decide (m = len ∧ el = elem ∧ es = size) := by
        unfold growOk
        rw [noRefsL_atom ha, oneL_atom ha, hc, Nat.beq_refl, okKey_le (by omega), nbeq, nbeq, nbeq]
        by_cases q1 : m = len <;> by_cases q2 : el = elem <;> by_cases q3 : es = size <;> simp [q1, q2, q3]
      rw [h2, HP_set _ _ _ ht]
      by_cases q : m = len ∧ el = elem ∧ es = size
      · obtain ⟨rfl, rfl, rfl⟩ := q; rfl
      · rw [decide_eq_false q]; rfl

/- ROWS OF THE CALLER'S THAT ARE HANDED IN -/

def pfX : Option ABlk → Bool
  | some (.cells b) => isNil b.lens && (Nat.beq b.wver 0 && b.pf)
  | _ => false
theorem pfX_X {cs : List Value} {t z : Nat} : pfX (some (X cs t z true)) = true := rfl
theorem seal_rowP {h : List ABlk} (hh : h.length ≤ 1099511627774) {i n c : Nat} {sl : List Value → Option (List Value × Frs)} (hx : pfX h[i]? = true) :
    sealV1 P (HP h) sl (.slice (some ⟨i, 0, none⟩) (n + 1) (c + 1)) = rowS P i (n + 1) c h[i]? := by
  show sealRow P (HP h) sl ⟨i, 0, none⟩ (n + 1) (c + 1) = _
  unfold sealRow
  rw [HP_get h hh]
  cases hb : h[i]? with
  | none => rw [hb] at hx; cases hx
  | some b =>
    rw [hb] at hx
    cases b with
    | map es => cases hx
    | tok a b c => cases hx
    | cells b =>
      have hx : (isNil b.lens && (Nat.beq b.wver 0 && b.pf)) = true := hx
      simp only [Bool.and_eq_true, Nat.beq_eq] at hx
      obtain ⟨h3, h4, h7⟩ := hx
      have h5 : b.lens = [] := by cases hl : b.lens with | nil => rfl | cons a r => rw [hl] at h3; cases h3
      have e0 : elemSize P b = tsz P b.elem := by unfold elemSize; rw [h5]; rfl
      have hi : okKey i = true := okKey_le (by have := lt_of_get hb; omega)
      have h6 : rdOk b (aver ⟨i, 0, none⟩) (0 + (n + 1) * tsz P b.elem) = Nat.ble ((n + 1) * tsz P b.elem) b.cells.length := by
        unfold rdOk
        have e1 : b.top = 0 := by unfold CBlk.top; rw [h5]; rfl
        have e2 : b.lenAt 0 = b.cells.length := by unfold CBlk.lenAt; rw [h5]
        rw [h4, e1]
        show (Nat.ble 0 0 && (Nat.ble 0 0 && Nat.ble (0 + (n + 1) * tsz P b.elem) (b.lenAt 0))) = _
        rw [e2, Nat.zero_add, nble 0 0]
        simp
      simp only [e0, h6, h7, cond_true]
      show (bif (Nat.ble (n + 1) c && Nat.blt 0 (tsz P b.elem)) && Nat.ble ((n + 1) * tsz P b.elem) b.cells.length then _ else none) = (bif Nat.ble (n + 1) c && (isNil b.lens && (b.pf && (Nat.blt 0 (tsz P b.elem) && Nat.ble ((n + 1) * tsz P b.elem) b.cells.length))) then _ else none)
      rw [h3, h7, Bool.and_assoc, Bool.true_and, Bool.true_and]
      cases (Nat.ble (n + 1) c && (Nat.blt 0 (tsz P b.elem) && Nat.ble ((n + 1) * tsz P b.elem) b.cells.length)) with
      | false => rfl
      | true =>
        simp only [cond_true, hi, Bool.and_true, Nat.zero_add]

end
end Go.Den
