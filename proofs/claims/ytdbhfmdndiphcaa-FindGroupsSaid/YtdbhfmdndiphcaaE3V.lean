/-
  SETS OF BYTES, as 256 bits: their words, as the program keeps them. Plain laws.
-/
import Derived.Test.YtdbhfmdndiphcaaE3H
namespace Go.Den
noncomputable section

/-- A word of a set. -/
def wd (s : BitVec 256) (i : Nat) : BitVec 64 := s.extractLsb' (64 * i) 64
abbrev wdV (s : BitVec 256) (i : Nat) : Value := .int .u64 ((wd s i).toNat : Nat)
def setC (s : BitVec 256) : List Value := [wdV s 0, wdV s 1, wdV s 2, wdV s 3]
def setV (s : BitVec 256) : Value := .agg ⟨setC s⟩

theorem setC_get (s : BitVec 256) {i : Nat} (h : i < 4) : (setC s)[i]? = some (wdV s i) := by
  match i, h with
  | 0, _ => rfl
  | 1, _ => rfl
  | 2, _ => rfl
  | 3, _ => rfl

theorem setC_length (s : BitVec 256) : (setC s).length = 4 := eq_of_heq HEq.rfl
theorem cells_setV (s : BitVec 256) : (setV s).cells = ⟨setC s⟩ := eq_of_heq HEq.rfl
theorem isJK_setV (s : BitVec 256) : isJK (setV s) = false := eq_of_heq HEq.rfl
theorem noRefs_setC (s : BitVec 256) : noRefsL (setC s) = true := eq_of_heq HEq.rfl
theorem slots_setC (s : BitVec 256) : slotsOf (setC s) 0 4 = setC s := rfl
theorem all_setC (s : BitVec 256) : (setC s).all oneCell = true := eq_of_heq HEq.rfl
theorem sl_setV (s : BitVec 256) : Sl 1 (setV s) (setV s) := .agg (.cons (.int _ _) (.cons (.int _ _) (.cons (.int _ _) (.cons (.int _ _) .nil))))
theorem sl_set (s : BitVec 256) : Sl 18 (setV s) (setV s) := (sl_setV s).mono (by omega)
theorem over_setC (s t : BitVec 256) : overwrite (setC s) 0 (setC t) = setC t := rfl

theorem wd_bit (s : BitVec 256) (i j : Nat) : (wd s i).getLsbD j = (decide (j < 64) && s.getLsbD (64 * i + j)) := by
  unfold wd
  rw [BitVec.getLsbD_extractLsb']

theorem zero_setC : [(Value.int .u64 0), .int .u64 0, .int .u64 0, .int .u64 0] = setC 0#256 := by
  simp [setC, wdV, wd]

/-- Sets of the same words are the same. -/
theorem wd_ext {s t : BitVec 256} (h : ∀ i, i < 4 → wd s i = wd t i) : s = t := by
  apply BitVec.eq_of_getLsbD_eq
  intro j hj
  have h1 := wd_bit s (j / 64) (j % 64)
  have h2 := wd_bit t (j / 64) (j % 64)
  rw [h (j / 64) (by omega)] at h1
  rw [h1] at h2
  have e : 64 * (j / 64) + j % 64 = j := by omega
  have e2 : decide (j % 64 < 64) = true := decide_eq_true (by omega)
  rw [e, e2, Bool.true_and, Bool.true_and] at h2
  exact h2

/-- Four words in a row. -/
def cat4 (a b c d : BitVec 64) : BitVec (64 + 64 + 64 + 64) := a ++ b ++ c ++ d

theorem cat4_bit (a b c d : BitVec 64) (j : Nat) : (cat4 a b c d).getLsbD j = if j < 64 then d.getLsbD j else if j - 64 < 64 then c.getLsbD (j - 64) else if j - 64 - 64 < 64 then b.getLsbD (j - 64 - 64) else a.getLsbD (j - 64 - 64 - 64) := by
  unfold cat4
  rw [BitVec.getLsbD_append, BitVec.getLsbD_append, BitVec.getLsbD_append]

/-- The set whose words are these. -/
def ofWd (f : Nat → BitVec 64) : BitVec 256 := (cat4 (f 3) (f 2) (f 1) (f 0)).cast (by decide)

theorem wd_ofWd (f : Nat → BitVec 64) {i : Nat} (h : i < 4) : wd (ofWd f) i = f i := by
  apply BitVec.eq_of_getLsbD_eq
  intro j hj
  rw [wd_bit, decide_eq_true hj, Bool.true_and]
  unfold ofWd
  rw [BitVec.getLsbD_cast, cat4_bit]
  rcases (show i = 0 ∨ i = 1 ∨ i = 2 ∨ i = 3 by omega) with rfl | rfl | rfl | rfl
  · rw [if_pos (by omega), show 64 * 0 + j = j by omega]
  · rw [if_neg (by omega), if_pos (by omega), show 64 * 1 + j - 64 = j by omega]
  · rw [if_neg (by omega), if_neg (by omega), if_pos (by omega), show 64 * 2 + j - 64 - 64 = j by omega]
  · rw [if_neg (by omega), if_neg (by omega), if_neg (by omega), show 64 * 3 + j - 64 - 64 - 64 = j by omega]

/-- One word is another. -/
def setWd (s : BitVec 256) (i : Nat) (w : BitVec 64) : BitVec 256 := ofWd fun k => if k = i then w else wd s k

theorem setC_set (s : BitVec 256) {i : Nat} (h : i < 4) (w : BitVec 64) : (setC s).set i (.int .u64 (w.toNat : Nat)) = setC (setWd s i w) := by
  have hw : ∀ k, k < 4 → wd (setWd s i w) k = if k = i then w else wd s k := fun k hk => wd_ofWd _ hk
  unfold setC wdV
  rw [hw 0 (by omega), hw 1 (by omega), hw 2 (by omega), hw 3 (by omega)]
  generalize wd s 0 = a
  generalize wd s 1 = b
  generalize wd s 2 = c
  generalize wd s 3 = d
  rcases (show i = 0 ∨ i = 1 ∨ i = 2 ∨ i = 3 by omega) with rfl | rfl | rfl | rfl <;> simp

theorem over_set (s : BitVec 256) {i : Nat} (h : i < 4) (w : BitVec 64) : overwrite (setC s) i [.int .u64 (w.toNat : Nat)] = setC (setWd s i w) := setC_set s h w

/- WORDS -/

theorem ofInt_toNat (v : BitVec 64) : BitVec.ofInt (IntKind.bits .u64) ((v.toNat : Nat) : Int) = v := by
  show BitVec.ofInt 64 _ = v
  apply BitVec.eq_of_toNat_eq
  simp

theorem and_u64 (v u : BitVec 64) : IntKind.wrap .u64 ((BitVec.ofInt (IntKind.bits .u64) ((v.toNat : Nat) : Int) &&& BitVec.ofInt (IntKind.bits .u64) ((u.toNat : Nat) : Int)).toNat : Int) = ((v &&& u).toNat : Nat) := by
  rw [ofInt_toNat, ofInt_toNat]
  exact wrap_u64 (by omega) (by have := (v &&& u).isLt; show ((v &&& u).toNat : Int) ≤ _; omega)

theorem or_u64 (v u : BitVec 64) : IntKind.wrap .u64 ((BitVec.ofInt (IntKind.bits .u64) ((v.toNat : Nat) : Int) ||| BitVec.ofInt (IntKind.bits .u64) ((u.toNat : Nat) : Int)).toNat : Int) = ((v ||| u).toNat : Nat) := by
  rw [ofInt_toNat, ofInt_toNat]
  exact wrap_u64 (by omega) (by have := (v ||| u).isLt; show ((v ||| u).toNat : Int) ≤ _; omega)

theorem shr_u64 (v : BitVec 64) {b : Int} (h1 : 0 ≤ b) (h2 : b < 64) : Int.fdiv ((v.toNat : Nat) : Int) (2 ^ (min b.toNat (IntKind.bits .u64))) = ((v >>> b.toNat).toNat : Nat) := by
  have hm : min b.toNat (IntKind.bits .u64) = b.toNat := by show min b.toNat 64 = _; omega
  rw [hm, BitVec.toNat_ushiftRight, Nat.shiftRight_eq_div_pow]
  have e2 : ((2 : Int) ^ b.toNat) = ((2 ^ b.toNat : Nat) : Int) := by rw [Int.natCast_pow]; rfl
  rw [e2, Int.fdiv_eq_ediv_of_nonneg _ (Int.natCast_nonneg _), Int.natCast_ediv]

theorem shr_u64n (v : BitVec 64) {n : Nat} (h : n < 64) : Int.fdiv ((v.toNat : Nat) : Int) (2 ^ (min n (IntKind.bits .u64))) = ((v >>> n).toNat : Nat) := by
  have := shr_u64 v (b := (n : Int)) (by omega) (by omega)
  simpa using this

theorem shl_u64 {b : Int} (h1 : 0 ≤ b) (h2 : b < 64) : IntKind.wrap .u64 (1 * 2 ^ (min b.toNat (IntKind.bits .u64))) = ((1#64 <<< b.toNat).toNat : Nat) := by
  have hm : min b.toNat (IntKind.bits .u64) = b.toNat := by show min b.toNat 64 = _; omega
  have hlt : (2 ^ b.toNat : Nat) < 2 ^ 64 := Nat.pow_lt_pow_right (by omega) (by omega)
  have e2 : ((2 : Int) ^ b.toNat) = ((2 ^ b.toNat : Nat) : Int) := by rw [Int.natCast_pow]; rfl
  rw [BitVec.toNat_shiftLeft, Nat.shiftLeft_eq, show (1#64).toNat = 1 from rfl, Nat.one_mul, Nat.mod_eq_of_lt hlt]
  rw [hm, Int.one_mul, e2]
  generalize (2 ^ b.toNat : Nat) = m at *
  exact wrap_u64 (by omega) (by omega)

theorem not_u64 (v : BitVec 64) : unV .xor (.int .u64 ((v.toNat : Nat) : Int)) = val (.int .u64 ((~~~v).toNat : Nat)) := by
  have h : bitsR .xor .u64 (if IntKind.signed .u64 then -1 else IntKind.max .u64) ((v.toNat : Nat) : Int) = some (((~~~v).toNat : Nat) : Int) := by
    have e3 : (BitVec.ofInt 64 18446744073709551615 ^^^ v) = ~~~v := by
      apply BitVec.eq_of_getLsbD_eq
      intro j hj
      rw [show BitVec.ofInt 64 18446744073709551615 = BitVec.allOnes 64 by decide, BitVec.getLsbD_xor, BitVec.getLsbD_allOnes, BitVec.getLsbD_not, decide_eq_true hj]
      simp
    show some (IntKind.wrap .u64 ((BitVec.ofInt 64 18446744073709551615 ^^^ BitVec.ofInt 64 ((v.toNat : Nat) : Int)).toNat : Int)) = _
    rw [show BitVec.ofInt 64 ((v.toNat : Nat) : Int) = v from ofInt_toNat v]
    show some (IntKind.wrap .u64 (((BitVec.ofInt 64 18446744073709551615 ^^^ v).toNat : Nat) : Int)) = _
    rw [e3, wrap_u64 (by omega) (by have := (~~~v).isLt; omega)]
  show valO ((bitsR .xor .u64 (if IntKind.signed .u64 then -1 else IntKind.max .u64) ((v.toNat : Nat) : Int)).map (.int .u64)) = _
  rw [h]
  rfl

theorem bit_one (v : BitVec 64) (n : Nat) : decide ((((v >>> n) &&& 1#64).toNat : Int) = 1) = v.getLsbD n := by
  have h : ((v >>> n) &&& 1#64).toNat = if v.getLsbD n then 1 else 0 := by
    rw [BitVec.toNat_and, BitVec.toNat_ushiftRight, show (1#64).toNat = 1 from rfl, Nat.and_one_is_mod, Nat.shiftRight_eq_div_pow, BitVec.getLsbD, Nat.testBit_eq_decide_div_mod_eq]
    by_cases hq : v.toNat / 2 ^ n % 2 = 1
    · simp [hq]
    · simp [hq]; omega
  rw [h]
  cases v.getLsbD n <;> rfl

/-- One byte's set. -/
def one (x : Nat) : BitVec 256 := 1#256 <<< x

theorem one_bit (x j : Nat) : (one x).getLsbD j = (decide (j < 256) && decide (j = x)) := by
  unfold one
  rw [BitVec.getLsbD_shiftLeft, BitVec.getLsbD_one]
  by_cases h1 : j < 256 <;> by_cases h2 : j = x <;> by_cases h3 : j < x <;> simp [h1, h2, h3] <;> omega

theorem or_one (s : BitVec 256) (x : Nat) (hx : x < 256) : setWd s (x / 64) (wd s (x / 64) ||| (1#64 <<< (x % 64))) = s ||| one x := by
  apply wd_ext
  intro i hi
  rw [setWd, wd_ofWd _ hi]
  apply BitVec.eq_of_getLsbD_eq
  intro j hj
  rw [wd_bit, decide_eq_true hj, Bool.true_and, BitVec.getLsbD_or, one_bit]
  have h256 : decide (64 * i + j < 256) = true := decide_eq_true (by omega)
  rw [h256, Bool.true_and]
  by_cases h : i = x / 64
  · rw [if_pos h, BitVec.getLsbD_or, wd_bit, decide_eq_true hj, Bool.true_and, ← h]
    congr 1
    rw [BitVec.getLsbD_shiftLeft, BitVec.getLsbD_one]
    by_cases h2 : j = x % 64
    · have : 64 * i + j = x := by omega
      simp [this, h2]; omega
    · have h3 : ¬ (64 * i + j = x) := by omega
      by_cases h4 : j < x % 64
      · simp [h3, h4]
      · have : ¬ (j - x % 64 = 0) := by omega
        simp [h3, h4, this]
  · rw [if_neg h, wd_bit, decide_eq_true hj, Bool.true_and]
    have h3 : ¬ (64 * i + j = x) := by omega
    simp [h3]

theorem has_bit (s : BitVec 256) (x : Nat) (hx : x < 256) : (wd s (x / 64)).getLsbD (x % 64) = s.getLsbD x := by
  rw [wd_bit, decide_eq_true (by omega), Bool.true_and]
  congr 1
  omega

theorem idx1_setV (s : BitVec 256) {k : IntKind} {i : Int} (h0 : 0 ≤ i) (h1 : i < 4) : idx1A 4 1 (setV s) (.int k i) = val (wdV s i.toNat) := by
  unfold idx1A
  rw [asNat_int h0]
  show (bif Nat.blt i.toNat 4 then fld1A (i.toNat * 1) (setV s) else .none) = _
  rw [nblt, decide_eq_true (by omega), cond_true, Nat.mul_one]
  show valO (setC s)[i.toNat]? = _
  rw [setC_get s (by omega)]
  rfl

theorem wd_or (s t : BitVec 256) (i : Nat) : wd (s ||| t) i = wd s i ||| wd t i := by
  apply BitVec.eq_of_getLsbD_eq
  intro j hj
  rw [BitVec.getLsbD_or, wd_bit, wd_bit, wd_bit, BitVec.getLsbD_or, decide_eq_true hj]
  simp

theorem wd_setWd (s : BitVec 256) (i : Nat) (w : BitVec 64) {k : Nat} (hk : k < 4) : wd (setWd s i w) k = if k = i then w else wd s k := wd_ofWd _ hk

theorem fits_setC (s : BitVec 256) : fitsL [.int .u64, .int .u64, .int .u64, .int .u64] (setC s) = true := rfl
theorem eqL_setC (s t : BitVec 256) : eqL (setC s) (setC t) = decide (s = t) := by
  have h : eqL (setC s) (setC t) = true ↔ s = t := by
    constructor
    · intro h
      simp only [eqL, setC, atomEq, Bool.and_eq_true, beq_iff_eq, Bool.and_true] at h
      apply wd_ext
      intro i hi
      apply BitVec.eq_of_toNat_eq
      rcases (show i = 0 ∨ i = 1 ∨ i = 2 ∨ i = 3 by omega) with rfl | rfl | rfl | rfl <;> omega
    · rintro rfl
      simp [eqL, setC, atomEq]
  by_cases hq : s = t
  · rw [decide_eq_true hq]; exact h.2 hq
  · rw [decide_eq_false hq]
    cases he : eqL (setC s) (setC t) with
    | false => rfl
    | true => exact absurd (h.1 he) hq

/-- Rows of sets. -/
def setsC (l : List (BitVec 256)) : List Value := l.flatMap setC
theorem setsC_length (l : List (BitVec 256)) : (setsC l).length = 4 * l.length := by
  induction l with
  | nil => rfl
  | cons s l ih => show (setC s ++ setsC l).length = _; rw [List.length_append, ih, setC_length, List.length_cons]; omega
theorem setsC_slot : ∀ (l : List (BitVec 256)) (i : Nat), i < l.length → slotsOf (setsC l) (i * 4) 4 = setC (l.getD i 0#256) := by
  intro l
  induction l with
  | nil => intro i h; cases h
  | cons s l ih =>
    intro i h
    cases i with
    | zero => rfl
    | succ i =>
      have := ih i (by simpa using h)
      rw [show (s :: l).getD (i + 1) 0#256 = l.getD i 0#256 by simp, ← this]
      show ((setC s ++ setsC l).drop ((i + 1) * 4)).take 4 = ((setsC l).drop (i * 4)).take 4
      rw [show (i + 1) * 4 = (setC s).length + i * 4 by rw [setC_length]; omega, List.drop_append, List.drop_of_length_le (by omega), List.nil_append]
      congr 2
      omega
theorem noRefs_setsC (l : List (BitVec 256)) : noRefsL (setsC l) = true := by
  rw [noRefsL_iff]
  intro v hv
  obtain ⟨s, _, h⟩ := List.mem_flatMap.1 hv
  exact (noRefsL_iff _).1 (noRefs_setC s) v h
theorem sets2 (a b : BitVec 256) : setC a ++ setC b = setsC [a, b] := rfl

theorem fill2_set (a b : BitVec 256) : fillR [(Value.int .u64 0), .int .u64 0, .int .u64 0, .int .u64 0, .int .u64 0, .int .u64 0, .int .u64 0, .int .u64 0] [(0, 4, setV a), (4, 4, setV b)] = some (setsC [a, b]) := rfl
theorem fill3_set (a b c : BitVec 256) : fillR [(Value.int .u64 0), .int .u64 0, .int .u64 0, .int .u64 0, .int .u64 0, .int .u64 0, .int .u64 0, .int .u64 0, .int .u64 0, .int .u64 0, .int .u64 0, .int .u64 0] [(0, 4, setV a), (4, 4, setV b), (8, 4, setV c)] = some (setsC [a, b, c]) := rfl
theorem fill0_set : fillR [(Value.int .u64 0), .int .u64 0, .int .u64 0, .int .u64 0] [] = some (setC 0#256) := by rw [zero_setC]; rfl

/-- All of sets. -/
def joinL (l : List (BitVec 256)) : BitVec 256 := l.foldl (· ||| ·) 0#256
theorem joinL_take (l : List (BitVec 256)) {i : Nat} (hi : i < l.length) : joinL (l.take (i + 1)) = joinL (l.take i) ||| l.getD i 0#256 := by
  unfold joinL
  rw [List.take_succ_eq_append_getElem hi, List.foldl_append, List.getD_eq_getElem?_getD, List.getElem?_eq_getElem hi]
  rfl

theorem agg_setC (s : BitVec 256) : Value.agg ⟨setC s⟩ = setV s := eq_of_heq HEq.rfl

theorem flat_setV (s : BitVec 256) : flat (setV s) = true := rfl
theorem fz_setV (s : BitVec 256) : Fzn (setV s) := (sl_set s).fz
theorem behind_set (h : List ABlk) (fr : Frs) (s : BitVec 256) : behind h fr (setV s) = h := rfl
theorem behindW_set (fr : Frs) (s : BitVec 256) : behindW fr (setV s) = [] := rfl

abbrev byteV (x : Nat) : Value := .int .u8 (x : Nat)
def ofL (l : List Nat) : BitVec 256 := l.foldl (fun s x => s ||| one x) 0#256

theorem take_ofL (l : List Nat) {i : Nat} (hi : i < l.length) : ofL (l.take (i + 1)) = ofL (l.take i) ||| one (l.getD i 0) := by
  unfold ofL
  rw [List.take_succ_eq_append_getElem hi, List.foldl_append, List.getD_eq_getElem?_getD, List.getElem?_eq_getElem hi]
  rfl

/-- The bytes from lo on, so many. -/
def rng (lo n : Nat) : BitVec 256 := ofL (List.range' lo n)
theorem rng_succ (lo n : Nat) : rng lo (n + 1) = rng lo n ||| one (lo + n) := by
  unfold rng ofL
  rw [List.range'_1_concat, List.foldl_append]
  rfl
theorem join_two (s t : BitVec 256) : joinL [s, t] = s ||| t := by
  simp [joinL]
theorem of_one (x : Nat) : ofL [x] = one x := by
  simp [ofL]

theorem slots_setsC (l : List (BitVec 256)) : slotsOf (setsC l) 0 (4 * l.length) = setsC l := slots_all (setsC_length l)

/-- One row of sets as an argument. -/
theorem SlA.sets {P : Program} {h : List ABlk} {i : Nat} {s : BitVec 256} {l : List (BitVec 256)} {elem : TypeId} {frz : Nat} {a a' : List Value} {fr : Frs} (hb : h[i]? = some (X (setsC (s :: l)) elem frz true)) (hs : tsz P elem = 4) (t : SlA P h a a' fr) :
    SlA P h (.slice (some ⟨i, 0, none⟩) (l.length + 1) (l.length + 1 + 1) :: a) (FL (s :: l).length (setsC (s :: l)) :: a') ((i, (l.length + 1) * 4) :: fr) := by
  have hl := setsC_length (s :: l)
  rw [List.length_cons] at hl
  have h1 := SlA.row (P := P) (h := h) (i := i) (n := l.length) (c := l.length + 1) hb hs (by omega) (Nat.le_refl _) (by omega) (by rw [slots_all (by omega)]; exact noRefs_setsC _) t
  rw [slots_all (by omega)] at h1
  exact h1

/-- One row of numbers as an argument. -/
theorem SlA.ints {P : Program} {h : List ABlk} {i : Nat} {v : Value} {vs : List Value} {elem : TypeId} {frz : Nat} {a a' : List Value} {fr : Frs} (hb : h[i]? = some (X (v :: vs) elem frz true)) (hs : tsz P elem = 1) (hr : noRefsL (v :: vs) = true) (t : SlA P h a a' fr) :
    SlA P h (.slice (some ⟨i, 0, none⟩) (vs.length + 1) (vs.length + 1 + 1) :: a) (FL (vs.length + 1) (v :: vs) :: a') ((i, (vs.length + 1) * 1) :: fr) := by
  have h1 := SlA.row (P := P) (h := h) (i := i) (n := vs.length) (c := vs.length + 1) hb hs (by omega) (Nat.le_refl _) (by simp) (by rw [slots_all (by simp)]; exact hr) t
  rw [slots_all (by simp)] at h1
  exact h1

/- MORE OF WORDS -/

theorem and_u64i (v : BitVec 64) (c : Int) : IntKind.wrap .u64 ((BitVec.ofInt (IntKind.bits .u64) ((v.toNat : Nat) : Int) &&& BitVec.ofInt (IntKind.bits .u64) c).toNat : Int) = ((v &&& BitVec.ofInt 64 c).toNat : Nat) := by
  rw [ofInt_toNat]
  exact wrap_u64 (by omega) (by have := (v &&& BitVec.ofInt 64 c).isLt; show ((v &&& BitVec.ofInt 64 c).toNat : Int) ≤ _; omega)
theorem add_u64 (v u : BitVec 64) : IntKind.wrap .u64 ((v.toNat : Nat) + (u.toNat : Nat) : Int) = ((v + u).toNat : Nat) := by
  rw [wrap_unsigned rfl, BitVec.toNat_add]
  show ((v.toNat : Int) + u.toNat) % 2 ^ 64 = (((v.toNat + u.toNat) % 2 ^ 64 : Nat) : Int)
  omega
theorem and_i64 (v : BitVec 64) : IntKind.wrap .i64 ((BitVec.ofInt (IntKind.bits .i64) (IntKind.wrap .i64 ((v.toNat : Nat) : Int)) &&& BitVec.ofInt (IntKind.bits .i64) 127).toNat : Int) = ((v.toNat % 128 : Nat) : Int) := by
  have h1 : BitVec.ofInt (IntKind.bits .i64) (IntKind.wrap .i64 ((v.toNat : Nat) : Int)) = v := by
    show BitVec.ofInt 64 (IntKind.wrap .i64 ((v.toNat : Nat) : Int)) = v
    have hw : IntKind.wrap .i64 ((v.toNat : Nat) : Int) = if ((v.toNat : Nat) : Int) % 18446744073709551616 ≥ 9223372036854775808 then ((v.toNat : Nat) : Int) % 18446744073709551616 - 18446744073709551616 else ((v.toNat : Nat) : Int) % 18446744073709551616 := by
      show (if (true && decide (((v.toNat : Nat) : Int) % (2 ^ 64 : Int) ≥ (2 ^ 63 : Int))) = true then ((v.toNat : Nat) : Int) % (2 ^ 64 : Int) - (2 ^ 64 : Int) else ((v.toNat : Nat) : Int) % (2 ^ 64 : Int)) = _
      simp only [Bool.true_and, decide_eq_true_eq]
      rfl
    rw [hw]
    apply BitVec.eq_of_toNat_eq
    rw [BitVec.toNat_ofInt]
    have := v.isLt
    split <;> omega
  rw [h1]
  have h2 : (v &&& BitVec.ofInt 64 127).toNat = v.toNat % 128 := by
    rw [BitVec.toNat_and, show (BitVec.ofInt 64 127).toNat = 2 ^ 7 - 1 from rfl, Nat.and_two_pow_sub_one_eq_mod]
  show IntKind.wrap .i64 ((v &&& BitVec.ofInt 64 127).toNat : Int) = _
  rw [h2]
  exact wrap_i64 (by omega) (by omega)

/-- How many bits, as the program reckons. -/
def swar (x : BitVec 64) : Nat :=
  let x := ((x >>> 1) &&& BitVec.ofInt 64 6148914691236517205) + (x &&& BitVec.ofInt 64 6148914691236517205)
  let x := ((x >>> 2) &&& BitVec.ofInt 64 3689348814741910323) + (x &&& BitVec.ofInt 64 3689348814741910323)
  let x := ((x >>> 4) + x) &&& BitVec.ofInt 64 1085102592571150095
  let x := x + (x >>> 8)
  let x := x + (x >>> 16)
  let x := x + (x >>> 32)
  x.toNat % 128

theorem over_zero (t : BitVec 256) : overwrite [(Value.int .u64 0), .int .u64 0, .int .u64 0, .int .u64 0] 0 (setC t) = setC t := eq_of_heq HEq.rfl

theorem fill1_byte (x : Int) : fillR [(Value.int .u8 0)] [(0, 1, .int .u8 x)] = some [.int .u8 x] := eq_of_heq HEq.rfl
theorem fill2_byte (x y : Int) : fillR [(Value.int .u8 0), .int .u8 0] [(0, 1, .int .u8 x), (1, 1, .int .u8 y)] = some [.int .u8 x, .int .u8 y] := eq_of_heq HEq.rfl

theorem zero_agg : Value.agg ⟨[(Value.int .u64 0), .int .u64 0, .int .u64 0, .int .u64 0]⟩ = setV 0#256 := by rw [zero_setC]; rfl

theorem eqc_set (a b : BitVec 256) : eqcV false [.int .u64, .int .u64, .int .u64, .int .u64] (setV a) (setV b) = val (.bool (decide (a = b))) := by
  rw [setV, setV, eqc_agg (fits_setC a) (fits_setC b), eqL_setC]
theorem neq_set (a b : BitVec 256) : eqcV true [.int .u64, .int .u64, .int .u64, .int .u64] (setV a) (setV b) = val (.bool (decide (a ≠ b))) := by
  rw [setV, setV, neq_agg (fits_setC a) (fits_setC b), eqL_setC, decide_not]

end
end Go.Den
