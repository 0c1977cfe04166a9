/-
  PARTS OF A PROOF, joined by a program (6 of 8): a proved reckoner of the model, and what the functions come to.
-/
import Derived.Test.YtjihbfdbgamcdaaQWayLaws5
import Derived.Test.YtjihbfdbgamcdaaProg
import Derived.KernelRfl
set_option linter.unusedVariables false
set_option linter.unusedSimpArgs false
namespace Go.Den
noncomputable section
def wd (s : BitVec 256) (i : Nat) : BitVec 64 := s.extractLsb' (64 * i) 64
abbrev wdV (s : BitVec 256) (i : Nat) : Value := .int .u64 ((wd s i).toNat : Nat)
def setC (s : BitVec 256) : List Value := [wdV s 0, wdV s 1, wdV s 2, wdV s 3]
def setV (s : BitVec 256) : Value := .agg ⟨setC s⟩
theorem wuab (s : BitVec 256) {i : Nat} (h : i < 4) : (setC s)[i]? = some (wdV s i) := by
 match i, h with
 | 0, _ => rfl
 | 1, _ => rfl
 | 2, _ => rfl
 | 3, _ => rfl
theorem wob (s : BitVec 256) : (setC s).length = 4 := eq_of_heq HEq.rfl
theorem wey (s : BitVec 256) (i j : Nat) : (wd s i).getLsbD j = (decide (j < 64) && s.getLsbD (64 * i + j)) := by
 unfold wd
 rw [BitVec.getLsbD_extractLsb']
theorem wcic {s t : BitVec 256} (h : ∀ i, i < 4 → wd s i = wd t i) : s = t := by
 apply BitVec.eq_of_getLsbD_eq
 intro j hj
 have h1 := wey s (j / 64) (j % 64)
 have h2 := wey t (j / 64) (j % 64)
 rw [h (j / 64) (by omega)] at h1
 rw [h1] at h2
 have e : 64 * (j / 64) + j % 64 = j := by omega
 have e2 : decide (j % 64 < 64) = true := decide_eq_true (by omega)
 rw [e, e2, Bool.true_and, Bool.true_and] at h2
 exact h2
def cat4 (a b c d : BitVec 64) : BitVec (64 + 64 + 64 + 64) := a ++ b ++ c ++ d
theorem cat4_bit (a b c d : BitVec 64) (j : Nat) : (cat4 a b c d).getLsbD j = if j < 64 then d.getLsbD j else if j - 64 < 64 then c.getLsbD (j - 64) else if j - 64 - 64 < 64 then b.getLsbD (j - 64 - 64) else a.getLsbD (j - 64 - 64 - 64) := by
 unfold cat4
 rw [BitVec.getLsbD_append, BitVec.getLsbD_append, BitVec.getLsbD_append]
def ofWd (f : Nat → BitVec 64) : BitVec 256 := (cat4 (f 3) (f 2) (f 1) (f 0)).cast (by decide)
theorem wqqb (f : Nat → BitVec 64) {i : Nat} (h : i < 4) : wd (ofWd f) i = f i := by
 apply BitVec.eq_of_getLsbD_eq
 intro j hj
 rw [wey, decide_eq_true hj, Bool.true_and]
 unfold ofWd
 rw [BitVec.getLsbD_cast, cat4_bit]
 rcases (show i = 0 ∨ i = 1 ∨ i = 2 ∨ i = 3 by omega) with rfl | rfl | rfl | rfl
 ·rw [if_pos (by omega), show 64 * 0 + j = j by omega]
 ·rw [if_neg (by omega), if_pos (by omega), show 64 * 1 + j - 64 = j by omega]
 ·rw [if_neg (by omega), if_neg (by omega), if_pos (by omega), show 64 * 2 + j - 64 - 64 = j by omega]
 ·rw [if_neg (by omega), if_neg (by omega), if_neg (by omega), show 64 * 3 + j - 64 - 64 - 64 = j by omega]
def wxyb (s : BitVec 256) (i : Nat) (w : BitVec 64) : BitVec 256 := ofWd fun k => if k = i then w else wd s k
theorem wcib (s : BitVec 256) {i : Nat} (h : i < 4) (w : BitVec 64) : (setC s).set i (.int .u64 (w.toNat : Nat)) = setC (wxyb s i w) := by
 have hw : ∀ k, k < 4 → wd (wxyb s i w) k = if k = i then w else wd s k := fun k hk => wqqb _ hk
 unfold setC wdV
 rw [hw 0 (by omega), hw 1 (by omega), hw 2 (by omega), hw 3 (by omega)]
 generalize wd s 0 = a
 generalize wd s 1 = b
 generalize wd s 2 = c
 generalize wd s 3 = d
 rcases (show i = 0 ∨ i = 1 ∨ i = 2 ∨ i = 3 by omega) with rfl | rfl | rfl | rfl <;> simp
theorem wcp (v : BitVec 64) : BitVec.ofInt (IntKind.bits .u64) ((v.toNat : Nat) : Int) = v := by
 show BitVec.ofInt 64 _ = v
 apply BitVec.eq_of_toNat_eq
 simp
theorem and_u64 (v u : BitVec 64) : IntKind.wrap .u64 ((BitVec.ofInt (IntKind.bits .u64) ((v.toNat : Nat) : Int) &&& BitVec.ofInt (IntKind.bits .u64) ((u.toNat : Nat) : Int)).toNat : Int) = ((v &&& u).toNat : Nat) := by
 rw [wcp, wcp]
 exact wrap_u64 (by omega) (by have := (v &&& u).isLt; show ((v &&& u).toNat : Int) ≤ _; omega)
theorem or_u64 (v u : BitVec 64) : IntKind.wrap .u64 ((BitVec.ofInt (IntKind.bits .u64) ((v.toNat : Nat) : Int) ||| BitVec.ofInt (IntKind.bits .u64) ((u.toNat : Nat) : Int)).toNat : Int) = ((v ||| u).toNat : Nat) := by
 rw [wcp, wcp]
 exact wrap_u64 (by omega) (by have := (v ||| u).isLt; show ((v ||| u).toNat : Int) ≤ _; omega)
theorem shr_u64 (v : BitVec 64) {b : Int} (h1 : 0 ≤ b) (h2 : b < 64) : Int.fdiv ((v.toNat : Nat) : Int) (2 ^ (min b.toNat (IntKind.bits .u64))) = ((v >>> b.toNat).toNat : Nat) := by
 have hm : min b.toNat (IntKind.bits .u64) = b.toNat := by show min b.toNat 64 = _; omega
 rw [hm, BitVec.toNat_ushiftRight, Nat.shiftRight_eq_div_pow]
 have e2 : ((2 : Int) ^ b.toNat) = ((2 ^ b.toNat : Nat) : Int) := by rw [Int.natCast_pow]; rfl
 rw [e2, Int.fdiv_eq_ediv_of_nonneg _ (Int.natCast_nonneg _), Int.natCast_ediv]
theorem wdic {b : Int} (h1 : 0 ≤ b) (h2 : b < 64) : IntKind.wrap .u64 (1 * 2 ^ (min b.toNat (IntKind.bits .u64))) = ((1#64 <<< b.toNat).toNat : Nat) := by
 have hm : min b.toNat (IntKind.bits .u64) = b.toNat := by show min b.toNat 64 = _; omega
 have hlt : (2 ^ b.toNat : Nat) < 2 ^ 64 := Nat.pow_lt_pow_right (by omega) (by omega)
 have e2 : ((2 : Int) ^ b.toNat) = ((2 ^ b.toNat : Nat) : Int) := by rw [Int.natCast_pow]; rfl
 rw [BitVec.toNat_shiftLeft, Nat.shiftLeft_eq, show (1#64).toNat = 1 from rfl, Nat.one_mul, Nat.mod_eq_of_lt hlt]
 rw [hm, Int.one_mul, e2]
 generalize (2 ^ b.toNat : Nat) = m at *
 exact wrap_u64 (by omega) (by omega)
theorem not_u64 (v : BitVec 64) : unV .xor (.int .u64 ((v.toNat : Nat) : Int)) = val (.int .u64 ((~~~v).toNat : Nat)) := by
 have h : wxdb .xor .u64 (if IntKind.signed .u64 then -1 else IntKind.max .u64) ((v.toNat : Nat) : Int) = some (((~~~v).toNat : Nat) : Int) := by
  have e3 : (BitVec.ofInt 64 18446744073709551615 ^^^ v) = ~~~v := by
   apply BitVec.eq_of_getLsbD_eq
   intro j hj
   rw [show BitVec.ofInt 64 18446744073709551615 = BitVec.allOnes 64 by decide, BitVec.getLsbD_xor, BitVec.getLsbD_allOnes, BitVec.getLsbD_not, decide_eq_true hj]
   simp
  show some (IntKind.wrap .u64 ((BitVec.ofInt 64 18446744073709551615 ^^^ BitVec.ofInt 64 ((v.toNat : Nat) : Int)).toNat : Int)) = _
  rw [show BitVec.ofInt 64 ((v.toNat : Nat) : Int) = v from wcp v]
  show some (IntKind.wrap .u64 (((BitVec.ofInt 64 18446744073709551615 ^^^ v).toNat : Nat) : Int)) = _
  rw [e3, wrap_u64 (by omega) (by have := (~~~v).isLt; omega)]
 show valO ((wxdb .xor .u64 (if IntKind.signed .u64 then -1 else IntKind.max .u64) ((v.toNat : Nat) : Int)).map (.int .u64)) = _
 rw [h]
 rfl
theorem bit_one (v : BitVec 64) (n : Nat) : decide ((((v >>> n) &&& 1#64).toNat : Int) = 1) = v.getLsbD n := by
 have h : ((v >>> n) &&& 1#64).toNat = if v.getLsbD n then 1 else 0 := by
  rw [BitVec.toNat_and, BitVec.toNat_ushiftRight, show (1#64).toNat = 1 from rfl, Nat.and_one_is_mod, Nat.shiftRight_eq_div_pow, BitVec.getLsbD, Nat.testBit_eq_decide_div_mod_eq]
  by_cases hq : v.toNat / 2 ^ n % 2 = 1
  ·simp [hq]
  ·simp [hq]; omega
 rw [h]
 cases v.getLsbD n <;> rfl
def one (x : Nat) : BitVec 256 := 1#256 <<< x
theorem one_bit (x j : Nat) : (one x).getLsbD j = (decide (j < 256) && decide (j = x)) := by
 unfold one
 rw [BitVec.getLsbD_shiftLeft, BitVec.getLsbD_one]
 by_cases h1 : j < 256 <;> by_cases h2 : j = x <;> by_cases h3 : j < x <;> simp [h1, h2, h3] <;> omega
theorem or_one (s : BitVec 256) (x : Nat) (hx : x < 256) : wxyb s (x / 64) (wd s (x / 64) ||| (1#64 <<< (x % 64))) = s ||| one x := by
 apply wcic
 intro i hi
 rw [wxyb, wqqb _ hi]
 apply BitVec.eq_of_getLsbD_eq
 intro j hj
 rw [wey, decide_eq_true hj, Bool.true_and, BitVec.getLsbD_or, one_bit]
 have h256 : decide (64 * i + j < 256) = true := decide_eq_true (by omega)
 rw [h256, Bool.true_and]
 by_cases h : i = x / 64
 ·rw [if_pos h, BitVec.getLsbD_or, wey, decide_eq_true hj, Bool.true_and, ← h]
  congr 1
  rw [BitVec.getLsbD_shiftLeft, BitVec.getLsbD_one]
  by_cases h2 : j = x % 64
  ·have : 64 * i + j = x := by omega
   simp [this, h2]; omega
  ·have h3 : ¬ (64 * i + j = x) := by omega
   by_cases h4 : j < x % 64
   ·simp [h3, h4]
   ·have : ¬ (j - x % 64 = 0) := by omega
    simp [h3, h4, this]
 ·rw [if_neg h, wey, decide_eq_true hj, Bool.true_and]
  have h3 : ¬ (64 * i + j = x) := by omega
  simp [h3]
theorem has_bit (s : BitVec 256) (x : Nat) (hx : x < 256) : (wd s (x / 64)).getLsbD (x % 64) = s.getLsbD x := by
 rw [wey, decide_eq_true (by omega), Bool.true_and]
 congr 1
 omega
theorem wd_setWd (s : BitVec 256) (i : Nat) (w : BitVec 64) {k : Nat} (hk : k < 4) : wd (wxyb s i w) k = if k = i then w else wd s k := wqqb _ hk
theorem wwcb (s : BitVec 256) : wri [.int .u64, .int .u64, .int .u64, .int .u64] (setC s) = true := rfl
theorem eqL_setC (s t : BitVec 256) : eqL (setC s) (setC t) = decide (s = t) := by
 have h : eqL (setC s) (setC t) = true ↔ s = t := by
  constructor
  ·intro h
   simp only [eqL, setC, wjcb, Bool.and_eq_true, beq_iff_eq, Bool.and_true] at h
   apply wcic
   intro i hi
   apply BitVec.eq_of_toNat_eq
   rcases (show i = 0 ∨ i = 1 ∨ i = 2 ∨ i = 3 by omega) with rfl | rfl | rfl | rfl <;> omega
  ·rintro rfl
   simp [eqL, setC, wjcb]
 by_cases hq : s = t
 ·rw [decide_eq_true hq]; exact h.2 hq
 ·rw [decide_eq_false hq]
  cases he : eqL (setC s) (setC t) with
  | false => rfl
  | true => exact absurd (h.1 he) hq
theorem SlA.ints {P : Program} {h : List ABlk} {i : Nat} {v : Value} {vs : List Value} {elem : TypeId} {frz : Nat} {a a' : List Value} {fr : Frs} (hb : h[i]? = some (X (v :: vs) elem frz true)) (hs : tsz P elem = 1) (hr : wqb (v :: vs) = true) (t : SlA P h a a' fr) :
  SlA P h (.slice (some ⟨i, 0, none⟩) (vs.length + 1) (vs.length + 1 + 1) :: a) (FL (vs.length + 1) (v :: vs) :: a') ((i, (vs.length + 1) * 1) :: fr) := by
 have h1 := SlA.row (P := P) (h := h) (i := i) (n := vs.length) (c := vs.length + 1) hb hs (by omega) (Nat.le_refl _) (by simp) (by rw [wjt (by simp)]; exact hr) t
 rw [wjt (by simp)] at h1
 exact h1
theorem weic (a b : BitVec 256) : eqcV true [.int .u64, .int .u64, .int .u64, .int .u64] (setV a) (setV b) = val (.bool (decide (a ≠ b))) := by
 rw [setV, setV, wqec (wwcb a) (wwcb b), eqL_setC, decide_not]
end
end Go.Den
namespace Go.Den
noncomputable section
def RowSt (elem size : Nat) (l : List ABlk) (v : Value) (n : Nat) (cs : List Value) : Prop :=
 (v = .slice none 0 0 ∧ n = 0 ∧ cs = []) ∨ ∃ t, v = FO t n cs ∧ l[t]? = some (.tok n elem size) ∧ cs.length = n * size ∧ 0 < n
theorem RowSt.sl {elem size n : Nat} {l : List ABlk} {v : Value} {cs : List Value} (h : RowSt elem size l v n cs) : Sl 0 v (FL n cs) := by
 rcases h with ⟨rfl, rfl, rfl⟩ | ⟨t, rfl, _, _, _⟩
 ·exact Sl.nilS
 ·exact Sl.fo t _ cs
theorem RowSt.jk {elem size n : Nat} {l : List ABlk} {v : Value} {cs : List Value} (h : RowSt elem size l v n cs) : isJK v = false := by
 rcases h with ⟨rfl, _⟩ | ⟨t, rfl, _⟩
 ·rfl
 ·exact wppb
end
end Go.Den
namespace Go.Den
noncomputable section
theorem over_all {l m : List Value} (h : m.length = l.length) : wm l 0 m = m := by
 have key : ∀ (m l : List Value) (a : List Value), m.length = l.length → wm (a ++ l) a.length m = a ++ m := by
  intro m
  induction m with
  | nil => intro l a h; have := List.eq_nil_of_length_eq_zero h.symm; subst this; rfl
  | cons v r ih =>
   intro l a h
   cases l with
   | nil => simp at h
   | cons w l =>
    simp only [List.length_cons, Nat.add_right_cancel_iff] at h
    show wm ((a ++ w :: l).set a.length v) (a.length + 1) r = _
    have e : (a ++ w :: l).set a.length v = (a ++ [v]) ++ l := by simp
    rw [e, show a.length + 1 = (a ++ [v]).length by simp, ih l (a ++ [v]) h]
    simp
 exact key m l [] h
theorem wcmb {a : Value} {l m : List Value} {k : Nat} : wm (a :: l) (k + 1) m = a :: wm l k m := by
 induction m generalizing l k with
 | nil => rfl
 | cons v r ih => show wm ((a :: l).set (k + 1) v) (k + 1 + 1) r = _; rw [List.set_cons_succ, ih]; rfl
theorem wyyb {a : Value} {l m : List Value} {k : Nat} : wm (a :: l) (1 + k) m = a :: wm l k m := by rw [Nat.add_comm]; exact wcmb
theorem wzyb {a : Value} {l : List Value} {k n : Nat} : slotsOf (a :: l) (k + 1) n = slotsOf l k n := rfl
theorem wrqb {a : Value} {l : List Value} {k n : Nat} : slotsOf (a :: l) (1 + k) n = slotsOf l k n := by rw [Nat.add_comm]; rfl
theorem slots_0 {a : Value} {l : List Value} {n : Nat} : slotsOf (a :: l) 0 (n + 1) = a :: slotsOf l 0 n := rfl
theorem slots_00 {l : List Value} {k : Nat} : slotsOf l k 0 = [] := by simp [slotsOf]
theorem wdib {α : Type} {enc : α → List Value} {k : Nat} (hk : ∀ a, (enc a).length = k) (l : List α) : (l.flatMap enc).length = l.length * k := by
 induction l with
 | nil => simp
 | cons a l ih => rw [List.flatMap_cons, List.length_append, hk, ih, List.length_cons, Nat.add_mul]; omega
theorem wxcb {α : Type} {enc : α → List Value} {k : Nat} (hk : ∀ a, (enc a).length = k) (d : α) : ∀ (l : List α) (i : Nat), i < l.length → slotsOf (l.flatMap enc) (i * k) k = enc (l.getD i d) := by
 intro l
 induction l with
 | nil => intro i h; cases h
 | cons a l ih =>
  intro i h
  cases i with
  | zero =>
   rw [List.flatMap_cons, Nat.zero_mul]
   show ((enc a ++ l.flatMap enc).drop 0).take k = enc a
   rw [List.drop_zero, List.take_append_of_le_length (by rw [hk]; exact Nat.le_refl _), List.take_of_length_le (by rw [hk]; exact Nat.le_refl _)]
  | succ i =>
   have := ih i (by simpa using h)
   rw [show (a :: l).getD (i + 1) d = l.getD i d by simp, ← this, List.flatMap_cons]
   show ((enc a ++ l.flatMap enc).drop ((i + 1) * k)).take k = _
   rw [show (i + 1) * k = (enc a).length + i * k by rw [hk, Nat.add_mul]; omega, List.drop_append, List.drop_of_length_le (by omega), List.nil_append]
   congr 2
   omega
theorem wycb {α : Type} {enc : α → List Value} (hk : ∀ a, wai (enc a) = true) (l : List α) : wai (l.flatMap enc) = true := by
 induction l with
 | nil => rfl
 | cons a l ih => rw [List.flatMap_cons, wnlb, hk, ih]; rfl
abbrev Mt := { l : List Int // l.length = 8 }
def mtC (m : Mt) : List Value := m.1.map (Value.int .i64)
def Mt.at (m : Mt) (i : Nat) : Int := m.1.getD i 0
def Mt.put (m : Mt) (i : Nat) (a : Int) : Mt := ⟨m.1.set i a, by rw [List.length_set]; exact m.2⟩
theorem wpfb {m : Mt} : (mtC m).length = 8 := by rw [mtC, List.length_map, m.2]
theorem wfic {m : Mt} {i : Nat} (h : i < 8) : (mtC m)[i]? = some (.int .i64 (m.at i)) := by
 rw [mtC, List.getElem?_map, Mt.at, List.getD_eq_getElem?_getD, List.getElem?_eq_getElem (by rw [m.2]; exact h)]
 rfl
theorem mt_set {m : Mt} {i : Nat} {a : Int} : (mtC m).set i (.int .i64 a) = mtC (m.put i a) := by
 rw [mtC, mtC, Mt.put, List.map_set]
theorem wsqb {m : Mt} : wai (mtC m) = true := by
 rw [whfc]
 intro v hv
 simp only [mtC, List.mem_map] at hv
 obtain ⟨x, _, rfl⟩ := hv
 rfl
theorem wgic {m : Mt} {i : Nat} (h : i + 2 ≤ 8) : slotsOf (mtC m) i 2 = [.int .i64 (m.at i), .int .i64 (m.at (i + 1))] := by
 apply List.ext_getElem?
 intro j
 rw [slotsOf, List.getElem?_take]
 split
 ·rw [List.getElem?_drop]
  rcases (show j = 0 ∨ j = 1 by omega) with rfl | rfl
  ·rw [wfic (by omega)]; rfl
  ·rw [wfic (by omega)]; rfl
 ·match j with
  | 0 => omega
  | 1 => omega
  | j + 2 => rfl
theorem whic {m : Mt} : slotsOf (mtC m) 0 8 = mtC m := wjt wpfb
theorem wazb (l : List Int) : wvp (l.map (Value.int .i64)) = true := by
 induction l with
 | nil => rfl
 | cons a l ih => rw [List.map_cons, wsu, ih]; rfl
theorem mt_flat {m : Mt} : wvp (mtC m) = true := wazb _
theorem mt_fz (m : Mt) : FzL (mtC m) := fzl wsqb
theorem ints_eq : ∀ (a b : List Int), a.length = b.length → (eqL (a.map (Value.int .i64)) (b.map (Value.int .i64)) = true ↔ a = b) := by
 intro a
 induction a with
 | nil => intro b h; cases b with | nil => simp [eqL] | cons x b => cases h
 | cons x a ih =>
  intro b h
  cases b with
  | nil => cases h
  | cons y b =>
   simp only [List.length_cons, Nat.add_right_cancel_iff] at h
   simp only [List.map_cons, eqL, wjcb, Bool.and_eq_true, beq_iff_eq, ih b h, List.cons.injEq]
theorem wiic : ∀ (a : List Int), wri (List.replicate a.length (AK.int .i64)) (a.map (Value.int .i64)) = true := by
 intro a
 induction a with
 | nil => rfl
 | cons x a ih => simp only [List.length_cons, List.replicate_succ, List.map_cons, wri, ih]; rfl
theorem wjic {m : Mt} : wri [.int .i64, .int .i64, .int .i64, .int .i64, .int .i64, .int .i64, .int .i64, .int .i64] (mtC m) = true := by
 have := wiic m.1
 rw [m.2] at this
 exact this
theorem mt_eqL {m n : Mt} : eqL (mtC m) (mtC n) = decide (m = n) := by
 have h := ints_eq m.1 n.1 (by rw [m.2, n.2])
 by_cases hq : m = n
 ·rw [decide_eq_true hq]; exact h.2 (by rw [hq])
 ·rw [decide_eq_false hq]
  cases he : eqL (mtC m) (mtC n) with
  | false => rfl
  | true => exact absurd (Subtype.ext (h.1 he)) hq
abbrev St := Int × Mt
def Mt.zero : Mt := ⟨[0, 0, 0, 0, 0, 0, 0, 0], rfl⟩
def St.zero : St := (0, Mt.zero)
def stC (s : St) : List Value := .int .i64 s.1 :: mtC s.2
theorem wdmb {s : St} : (stC s).length = 9 := by rw [stC, List.length_cons, wpfb]
theorem wtqb {s : St} : wai (stC s) = true := by rw [stC, wfz, wsqb]; rfl
theorem weib (s : St) : FzL (stC s) := fzl wtqb
theorem wkic {s : St} : wvp (stC s) = true := by rw [stC, wsu, mt_flat]; rfl
theorem st_get0 {s : St} : (stC s)[0]? = some (.int .i64 s.1) := rfl
theorem wlic {s : St} : slotsOf (stC s) 1 8 = mtC s.2 := whic
theorem wmic {s : St} {k n : Nat} : slotsOf (stC s) (1 + k) n = slotsOf (mtC s.2) k n := wrqb
theorem st_set0 {s : St} {a : Int} : (stC s).set 0 (.int .i64 a) = stC (a, s.2) := rfl
theorem st_over1 {s : St} {k : Nat} {m : List Value} : wm (stC s) (1 + k) m = .int .i64 s.1 :: wm (mtC s.2) k m := wyyb
theorem st_fold {a : Int} {m : Mt} : (Value.int .i64 a :: mtC m) = stC (a, m) := rfl
theorem wuqb {s : St} : wri [.int .i64, .int .i64, .int .i64, .int .i64, .int .i64, .int .i64, .int .i64, .int .i64, .int .i64] (stC s) = true := by
 rw [stC]; show (true && wri _ (mtC s.2)) = true; rw [wjic]; rfl
theorem st_eqL {s t : St} : eqL (stC s) (stC t) = decide (s = t) := by
 obtain ⟨a, m⟩ := s
 obtain ⟨b, n⟩ := t
 show ((a == b) && eqL (mtC m) (mtC n)) = _
 rw [mt_eqL]
 by_cases h1 : a = b <;> by_cases h2 : m = n <;> simp [h1, h2]
def stsC (l : List St) : List Value := l.flatMap stC
theorem wnic {l : List St} : (stsC l).length = l.length * 9 := wdib (fun _ => wdmb) l
theorem wtu {l : List St} {i : Nat} (h : i < l.length) : slotsOf (stsC l) (i * 9) 9 = stC (l.getD i St.zero) := wxcb (fun _ => wdmb) St.zero l i h
theorem sts_atom {l : List St} : wai (stsC l) = true := wycb (fun _ => wtqb) l
theorem wrt (l : List St) : FzL (stsC l) := fzl sts_atom
theorem wfib : stsC [] = [] := rfl
theorem whtb {l : List St} {s : St} : stsC (l ++ [s]) = stsC l ++ stC s := by rw [stsC, stsC, List.flatMap_append]; simp
theorem woj {s : St} : stsC [s] = stC s := by rw [stsC]; simp
theorem sts_one {s : St} : stC s = stsC [s] := by rw [stsC]; simp
def mtsC (l : List Mt) : List Value := l.flatMap mtC
theorem woic {l : List Mt} : (mtsC l).length = l.length * 8 := wdib (fun _ => wpfb) l
theorem mts_slot {l : List Mt} {i : Nat} (h : i < l.length) : slotsOf (mtsC l) (i * 8) 8 = mtC (l.getD i Mt.zero) := wxcb (fun _ => wpfb) _ l i h
theorem mts_atom {l : List Mt} : wai (mtsC l) = true := wycb (fun _ => wsqb) l
theorem mts_fz (l : List Mt) : FzL (mtsC l) := fzl mts_atom
theorem ints_bq : ∀ (l : List Int), beqL (l.map (Value.int .i64)) (l.map (Value.int .i64)) = true := by
 intro l
 induction l with
 | nil => rfl
 | cons a l ih => rw [List.map_cons, wrl, wov, ih]; rfl
theorem mt_bq {m : Mt} : beqL (mtC m) (mtC m) = true := ints_bq _
theorem st_bq {s : St} : beqL (stC s) (stC s) = true := by rw [stC, wrl, wov, mt_bq]; rfl
theorem sts_bq {l : List St} : beqL (stsC l) (stsC l) = true := wyhb (fun _ => st_bq) l
theorem mts_bq {l : List Mt} : beqL (mtsC l) (mtsC l) = true := wyhb (fun _ => mt_bq) l
theorem set_bq {s : BitVec 256} : beqL (setC s) (setC s) = true := by rw [setC, wrl, wrl, wrl, wrl, wov, wov, wov, wov, wpcb]; rfl
inductive Rx where
 | mk (kind min max n : Int) (set : BitVec 256) (kids : List Rx)
def Rx.kind : Rx → Int | .mk k _ _ _ _ _ => k
def Rx.mn : Rx → Int | .mk _ k _ _ _ _ => k
def Rx.mx : Rx → Int | .mk _ _ k _ _ _ => k
def Rx.n : Rx → Int | .mk _ _ _ k _ _ => k
def Rx.set : Rx → BitVec 256 | .mk _ _ _ _ s _ => s
def Rx.kids : Rx → List Rx | .mk _ _ _ _ _ l => l
def Rx.zero : Rx := .mk 0 0 0 0 0#256 []
theorem rx_kind {k a b c s l} : Rx.kind (.mk k a b c s l) = k := rfl
theorem rx_mn {k a b c s l} : Rx.mn (.mk k a b c s l) = a := rfl
theorem rx_mx {k a b c s l} : Rx.mx (.mk k a b c s l) = b := rfl
theorem rx_n {k a b c s l} : Rx.n (.mk k a b c s l) = c := rfl
theorem rx_set {k a b c s l} : Rx.set (.mk k a b c s l) = s := rfl
theorem wpic {k a b c s l} : Rx.kids (.mk k a b c s l) = l := rfl
mutual
def rxC : Rx → List Value
 | .mk k a b c s l => [.int .i64 k, .int .i64 a, .int .i64 b, .int .i64 c, wdV s 0, wdV s 1, wdV s 2, wdV s 3, FL l.length (rxsC l)]
def rxsC : List Rx → List Value
 | [] => []
 | r :: l => rxC r ++ rxsC l
end
theorem wqq {r : Rx} : rxC r = [.int .i64 r.kind, .int .i64 r.mn, .int .i64 r.mx, .int .i64 r.n, wdV r.set 0, wdV r.set 1, wdV r.set 2, wdV r.set 3, FL r.kids.length (rxsC r.kids)] := by
 cases r; rw [rxC]; rfl
theorem wuu (l : List Rx) : rxsC l = l.flatMap rxC := by
 induction l with
 | nil => rw [rxsC]; rfl
 | cons r l ih => rw [rxsC, ih, List.flatMap_cons]
theorem witb {r : Rx} : (rxC r).length = 9 := by rw [wqq]; rfl
theorem wqic {r : Rx} : wai (rxC r) = true := by rw [wqq]; rfl
theorem wuk (r : Rx) : FzL (rxC r) := fzl wqic
theorem rx_get0 {r : Rx} : (rxC r)[0]? = some (.int .i64 r.kind) := by rw [wqq]; rfl
theorem rx_get1 {r : Rx} : (rxC r)[1]? = some (.int .i64 r.mn) := by rw [wqq]; rfl
theorem rx_get2 {r : Rx} : (rxC r)[2]? = some (.int .i64 r.mx) := by rw [wqq]; rfl
theorem rx_get3 {r : Rx} : (rxC r)[3]? = some (.int .i64 r.n) := by rw [wqq]; rfl
theorem rx_get8 {r : Rx} : (rxC r)[8]? = some (FL r.kids.length (rxsC r.kids)) := by rw [wqq]; rfl
theorem wric {r : Rx} : slotsOf (rxC r) 4 4 = setC r.set := by rw [wqq]; rfl
theorem wgz {l : List Rx} : (rxsC l).length = l.length * 9 := by rw [wuu]; exact wdib (fun _ => witb) l
theorem wfy {l : List Rx} {i : Nat} (h : i < l.length) : slotsOf (rxsC l) (i * 9) 9 = rxC (l.getD i Rx.zero) := by rw [wuu]; exact wxcb (fun _ => witb) _ l i h
theorem rxs_atom {l : List Rx} : wai (rxsC l) = true := by rw [wuu]; exact wycb (fun _ => wqic) l
theorem rx_bq : ∀ (r : Rx), beqL (rxC r) (rxC r) = true := by
 refine Rx.rec (motive_1 := fun r => beqL (rxC r) (rxC r) = true) (motive_2 := fun l => beqL (rxsC l) (rxsC l) = true) ?_ ?_ ?_
 ·intro k a b c s l ih
  rw [wqq]
  rw [wpic]
  simp only [wrl, wov, bq_FL, ih, wpcb, Bool.and_self]
 ·rw [rxsC]; rfl
 ·intro r l h1 h2
  rw [rxsC]
  exact wkfb h1 h2
theorem rxs_bq {l : List Rx} : beqL (rxsC l) (rxsC l) = true := by rw [wuu]; exact wyhb rx_bq l
theorem wks (l : List Rx) : FzL (rxsC l) := fzl rxs_atom
theorem set_atom {s : BitVec 256} : wai (setC s) = true := rfl
theorem wkd (s : BitVec 256) : FzL (setC s) := fzl set_atom
theorem set_flat {s : BitVec 256} : wvp (setC s) = true := rfl
end
end Go.Den
namespace Go.Den
noncomputable section
variable {P : Program} {cfg : Cfg}
theorem wsic {α : Type} (body : α → PUnit → Sem (ForInStep PUnit)) : ∀ (l : List α), (∀ f ∈ l, ww P (body f ⟨⟩) = some (.yield ⟨⟩)) → ww P (forIn l (⟨⟩ : PUnit) body) = some ⟨⟩ := by
 intro l
 induction l with
 | nil => intro _; rfl
 | cons a l ih =>
  intro h
  rw [List.forIn_cons, wnb, h a (by simp), Option.bind_some]
  exact ih fun f hf => h f (List.mem_cons_of_mem _ hf)
theorem wemb {b : Bool} {d m : Nat} (ih : ∀ (t : TypeId) (ks : List AK), wdl P d t = some ks → ∀ (xs : List Value) (x : Value), Rep P t xs x → wri ks xs = true → ww P (Instr.checkKey b m t x) = some ⟨⟩) :
  ∀ (fs : List Field) (off : Nat) (ks : List AK), wcz (wdl P d) fs off = some ks → ∀ (xs : List Value), wri ks (xs.drop off) = true → off ≤ xs.length →
  ww P (forIn fs (⟨⟩ : PUnit) fun f _ => (if f.name ≠ "_" then (do
   let a ← part f.type ⟨xs⟩ f.offset
   Instr.checkKey b m f.type a
   pure (ForInStep.yield ⟨⟩)) else pure (ForInStep.yield ⟨⟩) : Sem (ForInStep PUnit))) = some ⟨⟩ := by
 intro fs
 induction fs with
 | nil => intro off ks h xs fx _; rfl
 | cons f fs ih2 =>
  intro off ks h xs fx hx
  unfold wcz at h
  split at h
  ·rename_i hf
   obtain ⟨hname, hoff⟩ := hf
   split at h
   ·rename_i k1 hk1
    split at h
    ·rename_i k2 hk2
     cases h
     obtain ⟨fx1, fx2⟩ := wqp fx
     have lx := wfm fx
     rw [List.length_append, List.length_drop] at lx
     obtain ⟨va, ha, ra⟩ := wnu hk1 (xs := xs) (off := off) (by omega)
     have he := ih _ _ hk1 _ _ ra fx1
     have hstep : ww P (if f.name ≠ "_" then (do
       let a ← part f.type ⟨xs⟩ f.offset
       Instr.checkKey b m f.type a
       pure (ForInStep.yield ⟨⟩)) else pure (ForInStep.yield ⟨⟩) : Sem (ForInStep PUnit)) = some (.yield ⟨⟩) := by
      rw [if_pos hname, hoff, wnb, ha, Option.bind_some, wnb, he, Option.bind_some]
      rfl
     rw [List.forIn_cons, wnb, hstep, Option.bind_some]
     rw [List.drop_drop] at fx2
     exact ih2 (off + k1.length) k2 hk2 xs fx2 (by omega)
    ·cases h
   ·cases h
  ·cases h
theorem check_ok {b : Bool} : ∀ (d : Nat) (t : TypeId) (ks : List AK), wdl P d t = some ks → ∀ (m : Nat), d ≤ m → ∀ (xs : List Value) (x : Value), Rep P t xs x → wri ks xs = true → ww P (Instr.checkKey b m t x) = some ⟨⟩ := by
 intro d
 induction d with
 | zero => intro t ks h; cases h
 | succ d ih =>
  intro t ks h m hm xs x hx fx
  obtain ⟨m, rfl⟩ : ∃ m', m = m' + 1 := ⟨m - 1, by omega⟩
  have hcopy := h
  unfold wdl at h
  split at h
  ·rename_i k hu
   cases h
   obtain ⟨rfl, _⟩ := wou hcopy hx hx hu rfl
   simp only [wri, Bool.and_true] at fx
   obtain ⟨a, rfl⟩ := fits_int fx
   show ww P ((underlying t).bind fun u => _) = _
   rw [wzh t hu]
   rfl
  ·rename_i hu
   cases h
   obtain ⟨rfl, _⟩ := wou hcopy hx hx hu rfl
   simp only [wri, Bool.and_true] at fx
   obtain ⟨a, rfl⟩ := wxx fx
   show ww P ((underlying t).bind fun u => _) = _
   rw [wzh t hu]
   rfl
  ·rename_i hu
   cases h
   obtain ⟨rfl, _⟩ := wou hcopy hx hx hu rfl
   simp only [wri, Bool.and_true] at fx
   obtain ⟨a, rfl⟩ := fits_bool fx
   show ww P ((underlying t).bind fun u => _) = _
   rw [wzh t hu]
   rfl
  ·rename_i fields hu
   split at h
   ·cases h
   ·split at h
    ·rename_i ks' hf
     split at h
     ·cases h
      obtain ⟨rfl, _⟩ := wrhb hx hx hu rfl
      have hl := wemb (b := b) (m := m) (fun t ks h xs x => ih t ks h m (by omega) xs x) fields.toList 0 ks hf xs (by simpa using fx) (by omega)
      show ww P ((underlying t).bind fun u => _) = _
      rw [wzh t hu]
      simp only [wnb, ← Array.forIn_toList]
      first
       | exact hl
       | (rw [hl]; rfl)
     ·cases h
    ·cases h
  ·rename_i len elem hu
   split at h
   ·rename_i k1 hk1
    split at h
    ·rename_i hs
     cases h
     simp only [Bool.and_eq_true] at hs
     obtain ⟨i, hi, hsz⟩ := whw hs.1
     obtain ⟨rfl, _⟩ := wrhb hx hx hu rfl
     have lx := wfm fx
     rw [wmv] at lx
     show ww P ((underlying t).bind fun u => _) = _
     rw [wzh t hu]
     simp only [wnb, Std.Legacy.Range.forIn_eq_forIn_range', Std.Legacy.Range.size, Nat.sub_zero, Nat.add_one_sub_one, Nat.div_one]
     have hl : ww P (forIn (List.range' 0 len) (⟨⟩ : PUnit) fun j _ => (do
       let n ← sizeOf elem
       let a ← part elem ⟨xs⟩ (j * n)
       Instr.checkKey b m elem a
       pure (ForInStep.yield ⟨⟩) : Sem (ForInStep PUnit))) = some ⟨⟩ := by
      apply wsic
      intro j hj
      rw [List.mem_range'_1] at hj
      have hb : j * k1.length + k1.length ≤ len * k1.length := by
       have : (j + 1) * k1.length ≤ len * k1.length := Nat.mul_le_mul_right _ (by omega)
       rw [Nat.succ_mul] at this
       exact this
      obtain ⟨va, ha, ra⟩ := wnu hk1 (xs := xs) (off := j * k1.length) (by omega)
      have he := ih _ _ hk1 m (by omega) _ _ ra (wlcb len fx j (by omega))
      rw [wnb, wkcb hi, Option.bind_some, hsz, wnb, ha, Option.bind_some, wnb, he, Option.bind_some]
      rfl
     first
      | exact hl
      | (rw [hl]; rfl)
    ·cases h
   ·cases h
  ·cases h
def wvqb (P : Program) (t : TypeId) : Bool := match tyU P t with | some (.struct _) => true | _ => false
theorem wzz {t : TypeId} (h : wvqb P t = true) : ∃ fs, tyU P t = some (.struct fs) := by
 unfold wvqb at h
 split at h
 ·exact ⟨_, by assumption⟩
 ·cases h
structure KeyT (P : Program) (kt : TypeId) {α : Type} [DecidableEq α] (enc : α → List Value) : Prop where
 ht : wvqb P kt = true
 fits : ∃ K, wdl P 12 kt = some K ∧ ∀ a, wri K (enc a) = true
 eq : ∀ a b, eqL (enc a) (enc b) = decide (a = b)
 flat : ∀ a, wvp (enc a) = true
section
variable {α : Type} [DecidableEq α] {enc : α → List Value} {kt : TypeId}
def mapK (enc : α → List Value) (m : List (α × Value)) : List (Value × Value) := m.map fun p => (.agg ⟨enc p.1⟩, p.2)
def wtp (a : α) : List (α × Value) → Nat → Option (Nat × Value)
 | [], _ => none
 | p :: r, i => if a = p.1 then some (i, p.2) else wtp a r (i + 1)
def getK (m : List (α × Value)) (a : α) : Option Value := (wtp a m 0).map (·.2)
theorem asking_K (k : KeyT P kt enc) (a : α) : ∀ (m : List (α × Value)) (i : Nat), ww P (Instr.findAsking kt (.agg ⟨enc a⟩) (entriesOf (mapK enc m)) i) = some (wtp a m i) := by
 obtain ⟨fs, hu⟩ := wzz k.ht
 obtain ⟨K, hK, hf⟩ := k.fits
 have rep : ∀ b : α, Rep P kt (enc b) (.agg ⟨enc b⟩) := fun b => ⟨_, hu, .inl ⟨rfl, rfl⟩⟩
 intro m
 induction m with
 | nil => intro i; rfl
 | cons p r ih =>
  intro i
  have he : ww P (Op.equal kt (.agg ⟨enc a⟩) (.agg ⟨enc p.1⟩)) = some (decide (a = p.1)) := by
   rw [← k.eq]
   exact wssb 12 kt K hK _ (by decide) _ _ _ _ (rep a) (rep p.1) (hf a) (hf p.1)
  show ww P ((Op.equal kt (.agg ⟨enc a⟩) (.agg ⟨enc p.1⟩)).bind fun q => if q = true then Sem.pure (some (i, p.2)) else Instr.findAsking kt (.agg ⟨enc a⟩) (entriesOf (mapK enc r)) (i + 1)) = _
  rw [wrb, he, Option.bind_some]
  by_cases hq : a = p.1
  ·simp only [wtp, hq, decide_true, if_true]; rfl
  ·simp only [wtp, hq, decide_false, Bool.false_eq_true, if_false]; exact ih (i + 1)
theorem wtic (k : KeyT P kt enc) (b : Bool) (a : α) (m : List (α × Value)) : wls P b kt (.agg ⟨enc a⟩) (mapK enc m) = some (wtp a m 0) := by
 obtain ⟨fs, hu⟩ := wzz k.ht
 obtain ⟨K, hK, hf⟩ := k.fits
 unfold wls
 rw [wnb, check_ok 12 kt K hK 10000 (by omega) (enc a) (.agg ⟨enc a⟩) ⟨_, hu, .inl ⟨rfl, rfl⟩⟩ (hf a), Option.bind_some]
 show ww P ((underlying kt).bind fun d => _) = _
 rw [wzh kt hu]
 cases m with
 | nil => rfl
 | cons p r =>
  show ww P (Instr.findAsking kt (.agg ⟨enc a⟩) (entriesOf (mapK enc (p :: r))) 0) = _
  exact asking_K k a (p :: r) 0
theorem lookX_K (k : KeyT P kt enc) {zero : Value} {ok : Bool} {a : α} {m : List (α × Value)} : wdfc P kt zero ok (.agg ⟨enc a⟩) (some (.map (mapK enc m))) = val (okV ok zero (getK m a)) := by
 show (bif flat (.agg ⟨enc a⟩) then wwv ok zero (wls P (mapK enc m).isEmpty kt (.agg ⟨enc a⟩) (mapK enc m)) else .none) = _
 rw [show flat (.agg ⟨enc a⟩) = true from k.flat a, cond_true, wtic k]
 unfold getK
 cases wtp a m 0 <;> rfl
def putK (a : α) (v : Value) : List (α × Value) → List (α × Value)
 | [] => [(a, v)]
 | p :: r => if a = p.1 then (a, v) :: r else p :: putK a v r
theorem wwqb {a : α} {v : Value} : ∀ {m : List (α × Value)} {i j : Nat}, wtp a m i = some (j, v) → ∃ h : j - i < m.length, i ≤ j ∧ (m[j - i]).1 = a ∧ ∀ w, putK a w m = m.set (j - i) (a, w) := by
 intro m
 induction m with
 | nil => intro i j h; cases h
 | cons p r ih =>
  intro i j h
  simp only [wtp] at h
  by_cases hq : a = p.1
  ·rw [if_pos hq] at h
   cases h
   refine ⟨by simp, Nat.le_refl _, ?_, fun w => ?_⟩
   ·simp [hq]
   ·simp [putK, hq]
  ·rw [if_neg hq] at h
   obtain ⟨h1, h2, h3, h4⟩ := ih h
   have e : j - i = (j - (i + 1)) + 1 := by omega
   refine ⟨by simp only [List.length_cons]; omega, by omega, ?_, fun w => ?_⟩
   ·simp only [e, List.getElem_cons_succ]; exact h3
   ·rw [e, List.set_cons_succ, ← h4 w]; simp [putK, hq]
theorem wxqb {a : α} : ∀ {m : List (α × Value)} {i : Nat}, wtp a m i = none → ∀ w, putK a w m = m ++ [(a, w)] := by
 intro m
 induction m with
 | nil => intro i _ w; rfl
 | cons p r ih =>
  intro i h w
  simp only [wtp] at h
  by_cases hq : a = p.1
  ·rw [if_pos hq] at h; cases h
  ·rw [if_neg hq] at h
   simp only [putK, if_neg hq, ih h w, List.cons_append]
theorem wuic {K : List AK} : ∀ {l : List Value}, wri K l = true → ∀ n, (l.zip l).all (fun (x, y) => Instr.sameBits n x y) = true := by
 induction K with
 | nil => intro l h n; cases l with | nil => rfl | cons v r => cases h
 | cons k K ih =>
  intro l h n
  cases l with
  | nil => rfl
  | cons v r =>
   simp only [wri, Bool.and_eq_true] at h
   simp only [List.zip_cons_cons, List.all_cons, Bool.and_eq_true]
   refine ⟨?_, ih h.2 n⟩
   cases k with
   | int j => obtain ⟨x, rfl⟩ := fits_int h.1; simp [Instr.sameBits]
   | str => obtain ⟨⟨⟨x⟩⟩, rfl⟩ := wxx h.1; simp only [Instr.sameBits]; rw [ba_beq]; simp
   | bool => obtain ⟨x, rfl⟩ := fits_bool h.1; simp [Instr.sameBits]
theorem updX_K (k : KeyT P kt enc) {h : List ABlk} {r : Nat} {a : α} {x : Value} {m : List (α × Value)} (hr : r < h.length) : updX P h r kt (.agg ⟨enc a⟩) x (some (.map (mapK enc m))) = .eff undef (HP (h.set r (.map (mapK enc (putK a x m))))) := by
 show (bif flat (.agg ⟨enc a⟩) && Nat.blt r h.length then wdbb (HP h) r (mapK enc m) (.agg ⟨enc a⟩) x (wls P false kt (.agg ⟨enc a⟩) (mapK enc m)) else .none) = _
 rw [show flat (.agg ⟨enc a⟩) = true from k.flat a, nblt, decide_eq_true hr, Bool.and_self, cond_true, wtic k]
 cases hq : wtp a m 0 with
 | none =>
  rw [wxqb hq]
  show ARes.eff undef ((HP h).set r (.map (mapK enc m ++ [(.agg ⟨enc a⟩, x)]))) = _
  rw [wfo _ _ _ hr]
  simp [mapK]
 | some q =>
  obtain ⟨j, v⟩ := q
  obtain ⟨h1, _, h3, h4⟩ := wwqb hq
  simp only [Nat.sub_zero] at h1 h3 h4
  rw [h4]
  have e1 : (mapK enc m)[j]? = some (.agg ⟨enc a⟩, (m[j]).2) := by
   rw [mapK, List.getElem?_map, List.getElem?_eq_getElem h1]
   simp only [Option.map_some, h3]
  obtain ⟨K, _, hf⟩ := k.fits
  have e2 : Instr.sameBits 10000 (.agg ⟨enc a⟩) (.agg ⟨enc a⟩) = true := by
   show ((⟨enc a⟩ : Array Value).size == (⟨enc a⟩ : Array Value).size && ((enc a).zip (enc a)).all fun (x, y) => Instr.sameBits 9999 x y) = true
   rw [wuic (hf a)]
   simp
  show (match (mapK enc m)[j]? with | some e => (bif Instr.sameBits 10000 e.1 (.agg ⟨enc a⟩) then ARes.eff undef ((HP h).set r (.map ((mapK enc m).set j (.agg ⟨enc a⟩, x)))) else .none) | none => .none) = _
  rw [e1]
  simp only [e2, cond_true]
  rw [wfo _ _ _ hr]
  simp [mapK, List.map_set]
omit [DecidableEq α] in
theorem wvic {β : Type} (f : α → β) : ∀ (l : List α) (j : Nat), (l.map f).eraseIdx j = (l.eraseIdx j).map f := by
 intro l
 induction l with
 | nil => intro j; rfl
 | cons a l ih =>
  intro j
  cases j with
  | zero => rfl
  | succ j => rw [List.map_cons, List.eraseIdx_cons_succ, ih, List.eraseIdx_cons_succ, List.map_cons]
omit [DecidableEq α] in
theorem wwic {m : List (α × Value)} (h : (m.all fun p => wmr p.2) = true) : wmcb (mapK enc m) = true := by
 unfold wmcb mapK
 rw [List.all_map]
 exact h
def setK (enc : α → List Value) (l : List α) : List (Value × Value) := mapK enc (l.map fun a => (a, .bool true))
omit [DecidableEq α] in
theorem wjtb : setK enc [] = [] := rfl
omit [DecidableEq α] in
theorem wy (l : List α) : wfab (setK enc l) = [] ∧ (∀ m, renM m (setK enc l) = setK enc l) ∧ wyjb (setK enc l) = [] := by
 have h : wmcb (setK enc l) = true := wwic (by rw [List.all_map]; simp [Function.comp_def, wmr])
 exact ⟨wifb h, fun _ => wslb h, wjfb h⟩
omit [DecidableEq α] in
theorem wxic (h : ∀ a, beqL (enc a) (enc a) = true) (l : List α) : beqP (setK enc l) (setK enc l) = true := by
 induction l with
 | nil => rfl
 | cons a l ih =>
  show (beqV (.agg ⟨enc a⟩) (.agg ⟨enc a⟩) && (beqV (.bool true) (.bool true) && beqP (setK enc l) (setK enc l))) = true
  rw [ih, wnqb]
  show (beqL (enc a) (enc a) && true) = true
  rw [h]; rfl
theorem find_set (a : α) : ∀ (l : List α) (i : Nat), (wtp a (l.map fun a => (a, .bool true)) i).map (·.2) = if a ∈ l then some (.bool true) else none := by
 intro l
 induction l with
 | nil => intro i; rfl
 | cons b l ih =>
  intro i
  simp only [List.map_cons, wtp]
  by_cases hq : a = b
  ·simp [hq]
  ·rw [if_neg hq, ih]; simp [hq]
theorem wnf (k : KeyT P kt enc) {a : α} {l : List α} : wdfc P kt (.bool false) false (.agg ⟨enc a⟩) (some (.map (setK enc l))) = val (.bool (decide (a ∈ l))) := by
 rw [setK, lookX_K k, getK, find_set]
 by_cases h : a ∈ l <;> simp [h] <;> rfl
theorem put_set {a : α} {l : List α} (h : a ∉ l) : putK a (.bool true) (l.map fun a => (a, .bool true)) = (l ++ [a]).map fun a => (a, .bool true) := by
 induction l with
 | nil => rfl
 | cons b l ih =>
  simp only [List.mem_cons, not_or] at h
  simp only [List.map_cons, putK, if_neg h.1, List.cons_append, ih h.2]
theorem woi (k : KeyT P kt enc) {h : List ABlk} {r : Nat} {a : α} {l : List α} (hr : r < h.length) (ha : a ∉ l) : updX P h r kt (.agg ⟨enc a⟩) (.bool true) (some (.map (setK enc l))) = .eff undef (HP (h.set r (.map (setK enc (l ++ [a]))))) := by
 rw [setK, updX_K k hr, put_set ha]
 rfl
end
theorem wgib {α : Type} [DecidableEq α] {enc : α → List Value} : ABlk.map [] = .map (setK enc ([] : List α)) := rfl
end
end Go.Den
namespace Go.Den
noncomputable section
variable {P : Program}
def appN (h : List ABlk) (elem size bytes : Nat) (s : Value) (n : Nat) (new : List Value) : ARes := wmy true (HP h) elem size bytes s n new
theorem app_FL {h : List ABlk} {elem size bytes : Nat} {s : Value} {n : Nat} {cs : List Value} (h0 : 0 < n) (hc : n * size ≤ cs.length) : appA true (HP h) elem size bytes s (FL n cs) = appN h elem size bytes s n (slotsOf cs 0 (n * size)) := by
 unfold appA
 have h1 : lenA (FL n cs) = some n := rfl
 have h2 : wbl (HP h) size n (FL n cs) = some (cs.take (n * size)) := by
  show (bif Nat.ble n n && (Nat.blt 0 n && Nat.ble (n * size) cs.length) then some (cs.take (n * size)) else none) = _
  rw [nble, nblt, nble, decide_eq_true (Nat.le_refl n), decide_eq_true h0, decide_eq_true hc]
  rfl
 obtain ⟨m, rfl⟩ : ∃ m, n = m + 1 := ⟨n - 1, by omega⟩
 rw [h1]
 simp only [h2]
 rfl
theorem app_FL0 {h : List ABlk} {elem size bytes : Nat} {cs : List Value} : appA true (HP h) elem size bytes (.slice none 0 0) (FL 0 cs) = .eff (.slice none 0 0) (HP h) := rfl
theorem wbzb {h : List ABlk} {elem size bytes t len : Nat} {cs ds : List Value} : appA true (HP h) elem size bytes (FO t len ds) (FL 0 cs) = .eff (FO t len ds) (HP h) := rfl
def appR (h : List ABlk) (elem size bytes : Nat) (s : Value) (n : Nat) : Option ABlk → ARes
 | some (.cells b) => bif decide (n * size ≤ b.cells.length) then appN h elem size bytes s n (slotsOf b.cells 0 (n * size)) else .none
 | _ => .none
def wktb : Option ABlk → Bool
 | some (.cells b) => isNil b.lens && Nat.beq b.wver 0
 | _ => false
theorem exactX_X {cs : List Value} {t z : Nat} {pf : Bool} : wktb (some (X cs t z pf)) = true := rfl
theorem appR_X {h : List ABlk} {elem size bytes : Nat} {s : Value} {n : Nat} {cs : List Value} {t z : Nat} {pf : Bool} (hc : n * size ≤ cs.length) : appR h elem size bytes s n (some (X cs t z pf)) = appN h elem size bytes s n (slotsOf cs 0 (n * size)) := by
 show (bif decide (n * size ≤ cs.length) then _ else _) = _
 rw [decide_eq_true hc]; rfl
theorem app_row1 {h : List ABlk} (hh : h.length ≤ 1099511627774) {elem size bytes : Nat} {s : Value} {i n c : Nat} (hx : wktb h[i]? = true) :
  appA true (HP h) elem size bytes s (.slice (some ⟨i, 0, none⟩) (n + 1) c) = appR h elem size bytes s (n + 1) h[i]? := by
 unfold appA
 have h1 : lenA (.slice (some ⟨i, 0, none⟩) (n + 1) c) = some (n + 1) := rfl
 rw [h1]
 have h2 : wbl (HP h) size (n + 1) (.slice (some ⟨i, 0, none⟩) (n + 1) c) = match wzi (HP h) ⟨i, 0, none⟩ ((n + 1) * size) with
  | some b => some (slotsOf b.cells 0 ((n + 1) * size))
  | none => none := by
  show (bif Nat.ble (n + 1) (n + 1) && Nat.blt 0 (n + 1) then _ else none) = _
  rw [nble, nblt, decide_eq_true (Nat.le_refl _), decide_eq_true (Nat.succ_pos n)]
  rfl
 simp only [h2]
 unfold wzi
 rw [wyg h hh]
 cases hb : h[i]? with
 | none => rw [hb] at hx; cases hx
 | some b =>
  rw [hb] at hx
  cases b with
  | cells b =>
   have hx : (isNil b.lens && Nat.beq b.wver 0) = true := hx
   simp only [Bool.and_eq_true, Nat.beq_eq] at hx
   obtain ⟨h3, h4⟩ := hx
   have h5 : b.lens = [] := by cases hl : b.lens with | nil => rfl | cons a r => rw [hl] at h3; cases h3
   have h6 : rdOk b (aver ⟨i, 0, none⟩) (0 + (n + 1) * size) = decide ((n + 1) * size ≤ b.cells.length) := by
    unfold rdOk
    have e1 : b.top = 0 := by unfold CBlk.top; rw [h5]; rfl
    have e2 : b.lenAt 0 = b.cells.length := by unfold CBlk.lenAt; rw [h5]
    rw [h4, e1]
    show (Nat.ble 0 0 && (Nat.ble 0 0 && Nat.ble (0 + (n + 1) * size) (b.lenAt 0))) = _
    rw [e2, Nat.zero_add, nble, nble]
    simp
   simp only [h6]
   by_cases hq : (n + 1) * size ≤ b.cells.length
   ·simp only [decide_eq_true hq, cond_true, appR]; rfl
   ·simp only [decide_eq_false hq, cond_false, appR]
  | map es => cases hx
  | tok a b c => cases hx
theorem appN_nil {h : List ABlk} (hh : h.length ≤ 1099511627774) {elem size bytes n : Nat} {new : List Value} (hn : n ≤ 16777216) (hb : bytes ≤ 1048576) (ha : wai new = true) :
  appN h elem size bytes (.slice none 0 0) n new = .eff (FO h.length n new) (HP (h ++ [.tok n elem size])) := by
 show (bif roomy n bytes then wpl true (HP h) elem size new n else .none) = _
 have h1 : roomy n bytes = true := by unfold roomy; rw [nble, nble, decide_eq_true hn, decide_eq_true hb]; rfl
 rw [h1, cond_true]
 show (bif wmdb (HP h) (nfL new) then ARes.eff (FO (HP h).n n (nfL new)) ((HP h).push (.tok n elem size)) else .none) = _
 rw [wxhb ha]
 have h2 : wmdb (HP h) new = true := by
  unfold wmdb
  rw [wqn ha, wlt ha, HP_n, wrg hh]; rfl
 rw [h2, cond_true, HP_n, wao]
def appT (h : List ABlk) (elem size t len n : Nat) (cs new : List Value) : Option ABlk → ARes
 | some (.tok m el es) => bif decide (m = len ∧ el = elem ∧ es = size) then .eff (FO t (len + n) (cs ++ new)) (HP (h.set t (.tok (len + n) elem size))) else .none
 | _ => .none
theorem appT_tok {h : List ABlk} {elem size t len n : Nat} {cs new : List Value} : appT h elem size t len n cs new (some (.tok len elem size)) = .eff (FO t (len + n) (cs ++ new)) (HP (h.set t (.tok (len + n) elem size))) := by
 simp [appT]
theorem appN_FO {h : List ABlk} (hh : h.length ≤ 1099511627774) {elem size bytes t len n : Nat} {cs new : List Value} (ht : t < h.length) (hn : len + n ≤ 16777216) (hb : bytes ≤ 1048576) (hc : cs.length = len * size) (ha : wai new = true) :
  appN h elem size bytes (FO t len cs) n new = appT h elem size t len n cs new h[t]? := by
 show (bif roomy (len + n) bytes then wxq (HP h) elem size t len cs (nfL new) n else .none) = _
 have h1 : roomy (len + n) bytes = true := by unfold roomy; rw [nble, nble, decide_eq_true hn, decide_eq_true hb]; rfl
 rw [h1, cond_true, wxhb ha]
 unfold wxq
 rw [wyg h hh]
 cases hq : h[t]? with
 | none => rfl
 | some b =>
  cases b with
  | cells b => rfl
  | map es => rfl
  | tok m el es =>
   show (bif wgv m el es elem size t len cs new then _ else _) = (bif decide (m = len ∧ el = elem ∧ es = size) then _ else _)
   have h2 : wgv m el es elem size t len cs new = decide (m = len ∧ el = elem ∧ es = size) := by
    unfold wgv
    rw [wqn ha, wlt ha, hc, Nat.beq_refl, wrg (by omega), nbeq, nbeq, nbeq]
    by_cases q1 : m = len <;> by_cases q2 : el = elem <;> by_cases q3 : es = size <;> simp [q1, q2, q3]
   rw [h2, wfo _ _ _ ht]
   by_cases q : m = len ∧ el = elem ∧ es = size
   ·obtain ⟨rfl, rfl, rfl⟩ := q; rfl
   ·rw [decide_eq_false q]; rfl
def pfX : Option ABlk → Bool
 | some (.cells b) => isNil b.lens && (Nat.beq b.wver 0 && b.pf)
 | _ => false
theorem pfX_X {cs : List Value} {t z : Nat} : pfX (some (X cs t z true)) = true := rfl
theorem wyic {h : List ABlk} (hh : h.length ≤ 1099511627774) {i n c : Nat} {sl : List Value → Option (List Value × Frs)} (hx : pfX h[i]? = true) :
  wpg P (HP h) sl (.slice (some ⟨i, 0, none⟩) (n + 1) (c + 1)) = rowS P i (n + 1) c h[i]? := by
 show wyn P (HP h) sl ⟨i, 0, none⟩ (n + 1) (c + 1) = _
 unfold wyn
 rw [wyg h hh]
 cases hb : h[i]? with
 | none => rw [hb] at hx; cases hx
 | some b =>
  rw [hb] at hx
  cases b with
  | map es => cases hx
  | tok a b c => cases hx
  | cells b =>
   have hx : (isNil b.lens && (Nat.beq b.wver 0 && b.pf)) = true := hx
   simp only [Bool.and_eq_true, Nat.beq_eq] at hx
   obtain ⟨h3, h4, h7⟩ := hx
   have h5 : b.lens = [] := by cases hl : b.lens with | nil => rfl | cons a r => rw [hl] at h3; cases h3
   have e0 : wxh P b = tsz P b.elem := by unfold wxh; rw [h5]; rfl
   have hi : wac i = true := wrg (by have := wzx hb; omega)
   have h6 : rdOk b (aver ⟨i, 0, none⟩) (0 + (n + 1) * tsz P b.elem) = Nat.ble ((n + 1) * tsz P b.elem) b.cells.length := by
    unfold rdOk
    have e1 : b.top = 0 := by unfold CBlk.top; rw [h5]; rfl
    have e2 : b.lenAt 0 = b.cells.length := by unfold CBlk.lenAt; rw [h5]
    rw [h4, e1]
    show (Nat.ble 0 0 && (Nat.ble 0 0 && Nat.ble (0 + (n + 1) * tsz P b.elem) (b.lenAt 0))) = _
    rw [e2, Nat.zero_add, nble 0 0]
    simp
   simp only [e0, h6, h7, cond_true]
   show (bif (Nat.ble (n + 1) c && Nat.blt 0 (tsz P b.elem)) && Nat.ble ((n + 1) * tsz P b.elem) b.cells.length then _ else none) = (bif Nat.ble (n + 1) c && (isNil b.lens && (b.pf && (Nat.blt 0 (tsz P b.elem) && Nat.ble ((n + 1) * tsz P b.elem) b.cells.length))) then _ else none)
   rw [h3, h7, Bool.and_assoc, Bool.true_and, Bool.true_and]
   cases (Nat.ble (n + 1) c && (Nat.blt 0 (tsz P b.elem) && Nat.ble ((n + 1) * tsz P b.elem) b.cells.length)) with
   | false => rfl
   | true =>
    simp only [cond_true, hi, Bool.and_true, Nat.zero_add]
end
end Go.Den
namespace Go.Den
set_option linter.defProp false
theorem ai {a b : Prop} (h : a) (k : b) : a ∧ b := ⟨h, k⟩
def zA := (ai @Bool.and_eq_true (ai @and_true @true_and))
def zH := (ai (ai (ai @decide_eq_true_eq @decide_eq_false_iff_not) (ai @Bool.not_true @Bool.not_false)) (ai (ai @Bool.not_eq_true @Bool.not_eq_false) (ai @Classical.not_not @ne_eq.{1})))
def zT := (ai (ai (ai (ai (ai @over_all @wcmb) (ai @wzyb (ai @slots_0 @slots_00))) (ai (ai @wpfb (ai @wfic @mt_set)) (ai @wgic (ai @mt_fz @wdmb)))) (ai (ai (ai @weib @st_get0) (ai @wmic (ai @wlic @st_set0))) (ai (ai @st_over1 (ai @wnic @wtu)) (ai @wfib (ai @woj @woic))))) (ai (ai (ai (ai @mts_slot @witb) (ai @wuk (ai @rx_get0 @rx_get1))) (ai (ai @rx_get2 (ai @rx_get3 @rx_get8)) (ai @wric (ai @wgz @wfy)))) (ai (ai (ai @wks @wkd) (ai @set_flat (ai @rx_kind @rx_mn))) (ai (ai @rx_mx (ai @rx_n @rx_set)) (ai @wpic (ai @sts_bq @rxs_bq))))))
def zD := (ai (ai (ai (ai @wpfb (ai @wdmb @wnic)) (ai @woic (ai @witb @wgz))) (ai (ai @wob (ai @mt_fz @weib)) (ai @wrt (ai @mts_fz @wuk)))) (ai (ai (ai @wks (ai @wkd @wjic)) (ai @wuqb (ai @wwcb @mt_bq))) (ai (ai @st_bq (ai @sts_bq @mts_bq)) (ai @set_bq (ai @rx_bq @rxs_bq)))))
def zS := (ai (ai (ai (ai (ai (ai (ai (ai @wowb (ai @wddc @wpwb)) (ai (ai @wedc @wfdc) (ai @wjpb @wswb))) (ai (ai (ai @wtwb @wkpb) (ai @wlpb @seqK_ret)) (ai (ai @widc @wshb) (ai @wuwb @wmpb)))) (ai (ai (ai (ai @opsR_nil @opsR_ins) (ai @wjdc @wvwb)) (ai (ai @wkdc @opsR_un) (ai @opsR_eqb @wldc))) (ai (ai (ai @wmdc @wndc) (ai @opsR_ssl @wodc)) (ai (ai @opsR_slS @wpdc) (ai @wqdc @opsR_b2s))))) (ai (ai (ai (ai @wrdc (ai @wsdc @opsI_val)) (ai (ai @wtdc @opsI_new) (ai @opsI_eff @wudc))) (ai (ai (ai @evl_tmp @wvdc) (ai @evls_nil @wwdc)) (ai (ai @SE_put @wipb) (ai @int2_add @int2_sub)))) (ai (ai (ai (ai @int2_quo @int2_rem) (ai @int2_eql @int2_neq)) (ai (ai @int2_lss @int2_leq) (ai @int2_gtr @int2_geq))) (ai (ai (ai @int2_and @int2_or) (ai @shift_shl @shift_shr)) (ai (ai @conv_int @un_not) (ai @un_neg @eqb_eq)))))) (ai (ai (ai (ai (ai @eqb_ne (ai @slen_str @isJK_int)) (ai (ai @wxdc @wnpb) (ai @isJK_agg @isJK_ptr))) (ai (ai (ai @wwwb @wopb) (ai @wppb @wydc)) (ai (ai @wzdc @wxwb) (ai @wdlb @wqpb)))) (ai (ai (ai (ai @cells_func @waec) (ai @wrpb @welb)) (ai (ai @wzdb @wthb) (ai @wspb @wffb))) (ai (ai (ai @wywb @wzwb) (ai @wtpb @wuhb)) (ai (ai @wbec @wupb) (ai @load1_HP @load1X_X))))) (ai (ai (ai (ai (ai @loadN_HP @loadNX_X) (ai @store_HP @storeX_X)) (ai (ai @wcdc @wnq) (ai @cond_true.{1} @cond_false.{1}))) (ai (ai (ai @nble @nblt) (ai @nbeq @decide_eq_true_eq)) (ai (ai @wrap_i64 @wrap_u8) (ai @wrap_u64 @Int.tdiv_eq_ediv_of_nonneg)))) (ai (ai (ai (ai @Int.tmod_eq_emod_of_nonneg @List.nil_append.{0}) (ai @List.cons_append.{0} @List.append_assoc.{0})) (ai (ai @List.length_cons.{0} @List.length_nil.{0}) (ai @List.getElem?_cons_zero.{0} @List.getElem?_cons_succ.{0}))) (ai (ai (ai @List.set_cons_zero.{0} @List.set_cons_succ.{0}) (ai @Nat.zero_add @Nat.add_zero)) (ai (ai @Bool.true_and @Bool.and_true) (ai @Bool.and_self @Bool.not_false))))))) (ai (ai (ai (ai (ai (ai @Bool.not_true (ai @Int.toNat_natCast @HP_n)) (ai (ai @List.drop_zero.{0} @List.drop_succ_cons.{0}) (ai @List.take_zero.{0} @List.take_succ_cons.{0}))) (ai (ai (ai @Nat.add_eq @Nat.mul_eq) (ai @Nat.mul_one @wgdc)) (ai (ai @whdc @waxb) (ai @arr_size @wjt)))) (ai (ai (ai (ai @resR_nil @wcec) (ai @wdec @resA_tmp)) (ai (ai @wbxb @wcxb) (ai @resV_val @weec))) (ai (ai (ai @wfec @wgec) (ai @len_FL @len_FO)) (ai (ai @whec @wiec) (ai @wjec @wqwb))))) (ai (ai (ai (ai @opsD_ins (ai @wsec @wtec)) (ai (ai @opsD_un @wuec) (ai @wvec @wwec))) (ai (ai (ai @opsD_ssl @wxec) (ai @opsD_slS @opsD_eqc)) (ai (ai @opsD_nil @wyec) (ai @whxb @wzec)))) (ai (ai (ai (ai @wafc @wixb) (ai @wmec @wilb)) (ai (ai @wwhb @opsR_eqc) (ai @opsR_mm @List.map_cons.{0, 0}))) (ai (ai (ai @List.map_nil.{0, 0} @List.length_append.{0}) (ai @idx1_agg @fld1_agg)) (ai (ai @wkec @whlb) (ai @faddr_FP @wexb)))))) (ai (ai (ai (ai (ai @wfxb (ai @wnec @Bool.decide_eq_true)) (ai (ai @Bool.decide_eq_false @if_true.{1}) (ai @if_false.{1} @str2_neq))) (ai (ai (ai @str2_add @sidx_str) (ai @ssl_both @ssl_lo)) (ai (ai @Option.map_some.{0, 0} @Option.map_none.{0, 0}) (ai @eq_self.{1} @decide_true)))) (ai (ai (ai (ai @decide_false @wkxb) (ai @opsD_eqb @opsD_mm)) (ai (ai @wlxb @wbfc) (ai @wcfc @opsD_b2s))) (ai (ai (ai @look_HP @okd_true) (ai @wefc @upd_HP)) (ai (ai @wklb @okV_some) (ai @okV_none @wzsb))))) (ai (ai (ai (ai (ai @wgfb @gselV_tt) (ai @gselV_tf @gselV_ft)) (ai (ai @gselV_ff @List.all_cons.{0}) (ai @List.all_nil.{0} @wrwb))) (ai (ai (ai @wflb @wgfc) (ai @wfz @atom_int)) (ai (ai @wifc @wvpb) (ai @atom_FL @atom_FP)))) (ai (ai (ai (ai @wjfc @wkfc) (ai @wlfc @wqxb)) (ai (ai @wwpb @wrxb) (ai @wmfc @seal_int))) (ai (ai (ai @wnfc @wxpb) (ai @wolb @seal_FL)) (ai (ai @seal_FO @seal_FP) (ai @wofc @seal_noS)))))))) (ai (ai (ai (ai (ai (ai (ai @seal_ptr (ai @seal_map @wpfc)) (ai (ai @wqfc @seal_agg) (ai @wsxb @wrfc))) (ai (ai (ai @wsfc @wtfc) (ai @wufc @EJ_n)) (ai (ai @EJ_g @SE_n) (ai @SE_g @E0_n)))) (ai (ai (ai (ai @E0_g @zipR_nil) (ai @wxfc @envL_SE)) (ai (ai @lvOk_nil @wyfc) (ai @evs_nil @evs_cons))) (ai (ai (ai @normA_X @cloL_nil) (ai @wzfc @memN_nil)) (ai (ai @wbgc @wuxb) (ai @wdgc @wvxb))))) (ai (ai (ai (ai @pins_nil (ai @wegc @hasL_nil)) (ai (ai @wfgc @wggc) (ai @wwxb @wxxb))) (ai (ai (ai @wzpb @whgc) (ai @wigc @wyxb)) (ai (ai @wjgc @renBX_X) (ai @wkgc @wlgc)))) (ai (ai (ai (ai @exactB_X @wzxb) (ai @wayb @refsB_X)) (ai (ai @wmgc @wngc) (ai @nm1_at @wbyb))) (ai (ai (ai @upto_0 @upto_1) (ai @upto_2 @upto_3)) (ai (ai @upto_4 @upto_5) (ai @upto_6 @wogc)))))) (ai (ai (ai (ai (ai @wcyb (ai @refs_ptr @wtgc)) (ai (ai @refs_row @wugc) (ai @refs_map @refs_FO))) (ai (ai (ai @refs_agg @weyb) (ai @wvgc @wwgc)) (ai (ai @wfyb @wxgc) (ai @wgyb @ren_ptr)))) (ai (ai (ai (ai @wygc @ren_nilS) (ai @ren_row @ren_row0)) (ai (ai @ren_map @ren_FO) (ai @ren_agg @wzgc))) (ai (ai (ai @ren_func @renM_nil) (ai @wahc @wbhc)) (ai (ai @whyb @wiyb) (ai @wcqb @wdqb))))) (ai (ai (ai (ai (ai @weqb @wdhc) (ai @wjyb @retR_end)) (ai (ai @wehc @wfhc) (ai @wkyb @valK_raw))) (ai (ai (ai @wghc @one_1) (ai @one_0 @one_2)) (ai (ai @whhc @raise_HP) (ai @AH0_HP @wihc)))) (ai (ai (ai (ai @wlyb @frzSet_X) (ai @wfqb @wgqb)) (ai (ai @wiqb @wlqb) (ai @wncb @wocb))) (ai (ai (ai @opsK_did @waic) (ai @wwyb @wpqb)) (ai (ai @bk_at @getN_0) (ai @getN_s @fzn1_agg))))))) (ai (ai (ai (ai (ai (ai @fzn1_int (ai @wlhc @wjqb)) (ai (ai @wvlb @fzn1_FL) (ai @fzn1_FP @wmhc))) (ai (ai (ai @wnhc @wnyb) (ai @frzV_agg @frzV_int)) (ai (ai @wohc @wkqb) (ai @wwlb @frzV_FL)))) (ai (ai (ai (ai @frzV_FP @wphc) (ai @wqhc @fl_int)) (ai (ai @fl_bool @wwhc) (ai @wqyb @fl_FL))) (ai (ai (ai @fl_FO @fl_ptr) (ai @fl_map @fl_agg)) (ai (ai @fl_tuple @wxhc) (ai @wsu @wryb))))) (ai (ai (ai (ai (ai @wyhc @gd_skip) (ai @gd_skip' @gd_do)) (ai (ai @gd_do' @wthc) (ai @woyb @wxlb))) (ai (ai (ai @wpyb @wuhc) (ai @wmqb @Option.isSome_some.{0})) (ai (ai @Bool.or_false @Bool.false_or) (ai @Bool.or_true @Bool.true_or)))) (ai (ai (ai (ai @Bool.and_false @Bool.false_and) (ai @List.append_nil.{0} @wlec)) (ai (ai @wdxb @lkE_nil) (ai @lkE_cons @look_E0))) (ai (ai (ai @look_EJ @lkB_true) (ai @wvfc @lkH_true)) (ai (ai @app_FL0 @wbzb) (ai @app_row1 @appR_X)))))) (ai (ai (ai (ai (ai @exactX_X (ai @appN_nil @appN_FO)) (ai (ai @appT_tok @wyic) (ai @pfX_X @rowS_X))) (ai (ai (ai @wvhc @isJK_map) (ai @nilc_ptr @nilc_FP)) (ai (ai @wsyb @mm_min2) (ai @mm_max2 @bq_X)))) (ai (ai (ai (ai @bq_map @bq_tok) (ai @wpcb @wrl)) (ai (ai @bqP_nil @bqP_cons) (ai @wov @wnqb))) (ai (ai (ai @bq_str @bq_ptr) (ai @bq_nilP @bq_nilS)) (ai (ai @wzhc @bq_FL) (ai @bq_FO @chg_same))))) (ai (ai (ai (ai (ai @refs_int @ren_int) (ai @wpgc @ren_bool)) (ai (ai @waqb @wdyb) (ai @wrlb @wbqb))) (ai (ai (ai @refs_FL @ren_FL) (ai @refs_FP @ren_FP)) (ai (ai @wqgc @ren_nilP) (ai @wrgc @ren_nilF)))) (ai (ai (ai (ai @wsgc @ren_nilI) (ai @wagc @wtxb)) (ai (ai @flz_int @flz_bool) (ai @wmxb @flz_agg))) (ai (ai (ai @flz_nilS @flz_ptr) (ai @flz_map @flz_FL)) (ai (ai @del_HP @ne_eq.{1}) (ai @not_false_eq_true @not_true_eq_false)))))))))
theorem z1 : type_of% @wbic := @wbic
theorem z2 : type_of% @wgtb := @wgtb
theorem z3 : type_of% @gd_ok := @gd_ok
theorem z4 : type_of% @gdD_ok := @gdD_ok
theorem z5 : type_of% @wlfb := @wlfb
theorem z6 : type_of% @AccLe.chg := @AccLe.chg
theorem z7 : type_of% @AccLe.same := @AccLe.same
end Go.Den
namespace Go.Proofs.Ytjihbfdbgamcdaa
open Go.Den
noncomputable section
theorem mixed : Try.prog.follows .mixedOrders = true := by kernel_rfl
def rawC (f : FuncId) : Bool × Bool := bif Nat.beq f 138 then (true, true) else (false, false)
def ownC (f : FuncId) : Bool := !([57, 58, 72, 81] : List Nat).any fun k => Nat.beq k f
def cfgC0 : Cfg := { raw := fun _ => (false, false), own := ownC, live := fun _ _ => none, glob := fun _ => none, know := wafb }
theorem wzic : ∀ c, wapb (den Try.prog cfgC0 100 (.call 138 [.slice none 0 c]) AH0) = true := fun c => by kernel_rfl
theorem clone_no : wapb (den Try.prog cfgC0 100 (.call 138 [.slice (some ⟨0, 0, none⟩) 0 0]) AH0) = true := by kernel_rfl
def knowC : FuncId → Option (List Value → Option Value) := wukb [138] wafb
theorem wvab : wcl Try.prog (fun _ => none) knowC :=
 wqcc (fun f hf => by
   rw [List.mem_singleton] at hf
   subst hf
   exact known_no (cfg := cfgC0) wit mixed wzic clone_no) wit
def cfgC : Cfg := { raw := rawC, own := ownC, live := fun _ _ => none, glob := fun _ => none, know := knowC }
end
end Go.Proofs.Ytjihbfdbgamcdaa
namespace Go.Den
noncomputable section
abbrev setX (S : BitVec 256) : Rx := .mk 1 0 0 0 S []
abbrev repX (mn mx : Int) (S : BitVec 256) : Rx := .mk 4 mn mx 0 0#256 [setX S]
abbrev whib (l : List Rx) : Rx := .mk 2 0 0 0 0#256 l
abbrev wfmb (l : List Rx) : Rx := .mk 3 0 0 0 0#256 l
abbrev rxGrp (n : Int) (r : Rx) : Rx := .mk 5 0 0 n 0#256 [r]
abbrev AB : BitVec 256 := one 97 ||| one 98
def rxA : Rx := repX 0 (-1) (one 97)
def rxW : Rx := whib [rxGrp 1 (wfmb [setX (one 97), whib [setX (one 97), setX (one 98)]]), rxGrp 2 (wfmb [setX (one 99), whib [setX (one 98), setX (one 99), setX (one 100)]])]
def prV (r : Rx) : Value := .tuple ⟨[.agg ⟨rxC r⟩, .int .i64 0, .int .i64 0]⟩
end
end Go.Den
namespace Go.Proofs.Ytjihbfdbgamcdaa
open Go.Den
noncomputable section
def noSp : List Value := [.int .i64 (-1), .int .i64 (-1)]
def stV (a : Int) (g1 g2 : List Value) : List Value := .int .i64 a :: (noSp ++ g1 ++ g2 ++ noSp)
def sp2 (a b : Int) : List Value := [.int .i64 a, .int .i64 b]
def wrP1 : List Value := [str [97, 42], .bool false]
def wrP2 : List Value := [str [40, 97, 124, 97, 98, 41, 40, 99, 124, 98, 99, 100, 41], .bool true]
def wrW1 : List Value := [.agg ⟨rxC rxA⟩, str [97, 97, 98], .bool true, .int .i64 0]
def wrV1 : Value := FL 3 (stV 2 noSp noSp ++ stV 1 noSp noSp ++ stV 0 noSp noSp)
def wrW2 : List Value := [.agg ⟨rxC rxW⟩, str [97, 98, 99, 100], .bool true, .int .i64 0]
def wrV2 : Value := FL 2 (stV 4 (sp2 0 1) (sp2 1 4) ++ stV 3 (sp2 0 2) (sp2 2 3))
def wrE2 : Value := FL 2 [.int .i64 3, .int .i64 4]
def wltb : List (FuncId × List Value × Value) := [(65, wrP1, prV rxA), (65, wrP2, prV rxW), (30, wrW1, wrV1), (30, wrW2, wrV2)]
theorem wgmb : ∀ e ∈ wltb, wzn Try.prog (fun _ => none) e.1 e.2.1 e.2.2 := by
 intro e he
 simp only [wltb, List.mem_cons, List.not_mem_nil, or_false] at he
 rcases he with rfl | rfl | rfl | rfl
 ·exact wpn (cfg := cfgC) (n := 3000) wvab mixed (by kernel_rfl) (by kernel_rfl) (by kernel_rfl)
 ·exact wpn (cfg := cfgC) (n := 3000) wvab mixed (by kernel_rfl) (by kernel_rfl) (by kernel_rfl)
 ·exact wpn (cfg := cfgC) (n := 3000) wvab mixed (by kernel_rfl) (by kernel_rfl) (by kernel_rfl)
 ·exact wpn (cfg := cfgC) (n := 3000) wvab mixed (by kernel_rfl) (by kernel_rfl) (by kernel_rfl)
def cfgE : Cfg := { raw := fun f => (([68, 99, 115] : List Nat).any fun k => Nat.beq k f, false), own := fun f => !([31, 68, 99, 115, 69] : List Nat).any fun k => Nat.beq k f, live := fun _ _ => none, glob := fun _ => none, know := wicb wltb wafb }
theorem ends_run : wzn Try.prog (fun _ => none) 31 wrW2 wrE2 := wpn (cfg := cfgE) (n := 3000) (wbz wgmb wit) mixed (by kernel_rfl) (by kernel_rfl) (by kernel_rfl)
def wrTab : List (FuncId × List Value × Value) := (31, wrW2, wrE2) :: wltb
def cfgW : Cfg := { raw := fun _ => (false, false), own := ownC, live := fun _ _ => none, glob := fun _ => none, know := wicb wrTab wafb }
theorem wyqb : wnhb (den Try.prog cfgW 3000 (.call 39 []) AH0) = true := by kernel_rfl
theorem wiib : wzn Try.prog (fun _ => none) 39 [] (.bool true) := wiwb (cfg := cfgW) (wbz (fun e he => by
 rcases List.mem_cons.1 he with rfl | he
 ·exact ends_run
 ·exact wgmb e he) wit) mixed wyqb
end
end Go.Proofs.Ytjihbfdbgamcdaa
namespace Go.Proofs.Ytjihbfdbgamcdaa
open Go.Den
noncomputable section
def live7 (i : Nat) : Option (List Tmp × List Tmp × Nat) := bif Nat.beq i 13 then some ([5, 9, 10, 12, 14, 15, 16, 17, 79, 80, 81], [5, 9, 10, 12, 14, 15, 16, 17], 999999) else bif Nat.beq i 18 then some ([5, 9, 10, 12, 14, 15, 16, 17, 91, 92, 93], [5, 9, 10, 12, 14, 15, 16, 17], 999999) else bif Nat.beq i 26 then some ([5, 9, 10, 12, 16, 22, 112, 113, 114], [5, 9, 10, 16, 22], 999999) else bif Nat.beq i 29 then some ([5, 9, 10, 12, 16, 22, 112, 113, 114, 121, 122, 123], [5, 9, 10, 12, 16, 22, 112, 113, 114], 999999) else bif Nat.beq i 35 then some ([5, 9, 10, 22, 134, 135, 136], [5, 8, 9, 10, 22], 999999) else bif Nat.beq i 44 then some ([9, 10, 22, 29, 30, 154, 155, 156], [8, 9, 22, 29, 30], 999999) else bif Nat.beq i 49 then some ([9, 10, 22, 29, 30, 32, 154, 155, 156, 179, 180, 181], [8, 9, 10, 22, 29, 30, 154, 155, 156], 999999) else none
def live21 (i : Nat) : Option (List Tmp × List Tmp × Nat) := bif Nat.beq i 3 then some ([0, 1, 5, 6], [5], 999999) else none
def live31 (i : Nat) : Option (List Tmp × List Tmp × Nat) := bif Nat.beq i 3 then some ([9, 16, 17, 18], [9], 999999) else none
def live32 (i : Nat) : Option (List Tmp × List Tmp × Nat) := bif Nat.beq i 3 then some ([0, 1, 3], [0, 1], 999999) else none
def live37 (i : Nat) : Option (List Tmp × List Tmp × Nat) := bif Nat.beq i 3 then some ([2, 3, 6, 7, 8], [2, 3], 999999) else none
def live38 (i : Nat) : Option (List Tmp × List Tmp × Nat) := bif Nat.beq i 2 then some ([1, 2, 4], [1, 2], 999999) else none
def live67 (i : Nat) : Option (List Tmp × List Tmp × Nat) := bif Nat.beq i 18 then some ([4, 5, 8, 80, 81, 82], [8], 999999) else bif Nat.beq i 27 then some ([3, 5, 11, 108, 109, 110], [11], 999999) else bif Nat.beq i 34 then some ([3, 7, 128, 129, 130], [7], 999999) else none
def live69 (i : Nat) : Option (List Tmp × List Tmp × Nat) := bif Nat.beq i 4 then some ([0, 3], [0, 2], 999999) else bif Nat.beq i 9 then some ([0, 3, 4, 5], [0, 3], 999999) else none
def live87 (i : Nat) : Option (List Tmp × List Tmp × Nat) := bif Nat.beq i 3 then some ([1, 3, 6, 7, 8, 9], [6, 7], 999999) else none
def live88 (i : Nat) : Option (List Tmp × List Tmp × Nat) := bif Nat.beq i 3 then some ([3, 7, 8, 9], [3], 999999) else none
def live89 (i : Nat) : Option (List Tmp × List Tmp × Nat) := bif Nat.beq i 4 then some ([3, 17, 18, 19], [4], 999999) else none
def live90 (i : Nat) : Option (List Tmp × List Tmp × Nat) := bif Nat.beq i 12 then some ([0, 2, 77, 78, 79], [6], 999999) else none
def live96 (i : Nat) : Option (List Tmp × List Tmp × Nat) := bif Nat.beq i 1 then some ([0, 6, 7, 8], [], 999999) else none
def live97 (i : Nat) : Option (List Tmp × List Tmp × Nat) := bif Nat.beq i 3 then some ([3, 4, 7, 11, 12, 13], [7], 999999) else none
def live98 (i : Nat) : Option (List Tmp × List Tmp × Nat) := bif Nat.beq i 5 then some ([0, 1, 5, 52, 53, 54], [0, 1, 5], 999999) else none
def live99 (i : Nat) : Option (List Tmp × List Tmp × Nat) := bif Nat.beq i 2 then some ([0, 1, 2, 3, 8, 9], [], 999999) else none
def live115 (i : Nat) : Option (List Tmp × List Tmp × Nat) := bif Nat.beq i 1 then some ([0, 1, 2, 6], [], 999999) else bif Nat.beq i 4 then some ([0, 1, 2, 6, 7], [0, 1, 2, 6], 999999) else none
def live132 (i : Nat) : Option (List Tmp × List Tmp × Nat) := bif Nat.beq i 7 then some ([2, 3, 4, 20], [2, 3], 999999) else bif Nat.beq i 16 then some ([2, 3, 4, 36], [2, 3], 999999) else none
def live162 (i : Nat) : Option (List Tmp × List Tmp × Nat) := bif Nat.beq i 2 then some ([0, 1, 7, 8], [4], 999999) else none
def live163 (i : Nat) : Option (List Tmp × List Tmp × Nat) := bif Nat.beq i 2 then some ([0, 1, 7, 8], [4], 999999) else none
def liveT (f i : Nat) : Option (List Tmp × List Tmp × Nat) := bif Nat.blt f 89 then (bif Nat.blt f 38 then (bif Nat.blt f 31 then (bif Nat.blt f 21 then (bif Nat.beq f 7 then live7 i else none) else (bif Nat.beq f 21 then live21 i else none)) else (bif Nat.blt f 32 then (bif Nat.beq f 31 then live31 i else none) else (bif Nat.blt f 37 then (bif Nat.beq f 32 then live32 i else none) else (bif Nat.beq f 37 then live37 i else none)))) else (bif Nat.blt f 69 then (bif Nat.blt f 67 then (bif Nat.beq f 38 then live38 i else none) else (bif Nat.beq f 67 then live67 i else none)) else (bif Nat.blt f 87 then (bif Nat.beq f 69 then live69 i else none) else (bif Nat.blt f 88 then (bif Nat.beq f 87 then live87 i else none) else (bif Nat.beq f 88 then live88 i else none))))) else (bif Nat.blt f 99 then (bif Nat.blt f 96 then (bif Nat.blt f 90 then (bif Nat.beq f 89 then live89 i else none) else (bif Nat.beq f 90 then live90 i else none)) else (bif Nat.blt f 97 then (bif Nat.beq f 96 then live96 i else none) else (bif Nat.blt f 98 then (bif Nat.beq f 97 then live97 i else none) else (bif Nat.beq f 98 then live98 i else none)))) else (bif Nat.blt f 132 then (bif Nat.blt f 115 then (bif Nat.beq f 99 then live99 i else none) else (bif Nat.beq f 115 then live115 i else none)) else (bif Nat.blt f 162 then (bif Nat.beq f 132 then live132 i else none) else (bif Nat.blt f 163 then (bif Nat.beq f 162 then live162 i else none) else (bif Nat.beq f 163 then live163 i else none)))))
def tabK : List (FuncId × List Value × Value) := [(39, [], .bool true)]
def cfg : Cfg := { raw := fun f => (Nat.beq f 68 || Nat.beq f 99 || Nat.beq f 115, Nat.beq f 87), own := fun f => bif Nat.beq f 31 then false else bif Nat.beq f 68 then false else bif Nat.beq f 69 then false else bif Nat.beq f 99 then false else bif Nat.beq f 115 then false else bif Nat.beq f 41 then false else true, live := liveT, glob := fun _ => none, know := wicb tabK wafb }
theorem hc : PlainA cfg := ⟨rfl⟩
theorem wxl : wcl Try.prog cfg.glob cfg.know := wbz (fun e he => by
 simp only [tabK, List.mem_cons, List.not_mem_nil, or_false] at he
 subst he; exact wiib) wit
theorem wajc : (∀ (rec : Rec) (args : List Value) (H : AH), callS Try.prog cfg rec 7 args H = wlf rec 7 H (whd Try.prog H 20 args) (cfg.know 7)) ∧ (∀ (rec : Rec) (args : List Value) (H : AH), callS Try.prog cfg rec 10 args H = wlf rec 10 H (whd Try.prog H 20 args) (cfg.know 10)) ∧ (∀ (rec : Rec) (args : List Value) (H : AH), callS Try.prog cfg rec 20 args H = wlf rec 20 H (whd Try.prog H 20 args) (cfg.know 20)) ∧ (∀ (rec : Rec) (args : List Value) (H : AH), callS Try.prog cfg rec 21 args H = wlf rec 21 H (whd Try.prog H 20 args) (cfg.know 21)) ∧ (∀ (rec : Rec) (args : List Value) (H : AH), callS Try.prog cfg rec 30 args H = wlf rec 30 H (whd Try.prog H 20 args) (cfg.know 30)) ∧ (∀ (rec : Rec) (args : List Value) (H : AH), callS Try.prog cfg rec 31 args H = wlf rec 31 H (whd Try.prog H 20 args) (cfg.know 31)) ∧ (∀ (rec : Rec) (args : List Value) (H : AH), callS Try.prog cfg rec 32 args H = wlf rec 32 H (whd Try.prog H 20 args) (cfg.know 32)) ∧ (∀ (rec : Rec) (args : List Value) (H : AH), callS Try.prog cfg rec 37 args H = wlf rec 37 H (whd Try.prog H 20 args) (cfg.know 37)) ∧ (∀ (rec : Rec) (args : List Value) (H : AH), callS Try.prog cfg rec 38 args H = wlf rec 38 H (whd Try.prog H 20 args) (cfg.know 38)) ∧ (∀ (rec : Rec) (args : List Value) (H : AH), callS Try.prog cfg rec 39 args H = wlf rec 39 H (whd Try.prog H 20 args) (cfg.know 39)) ∧ (∀ (rec : Rec) (args : List Value) (H : AH), callS Try.prog cfg rec 46 args H = wlf rec 46 H (whd Try.prog H 20 args) (cfg.know 46)) ∧ (∀ (rec : Rec) (args : List Value) (H : AH), callS Try.prog cfg rec 62 args H = wlf rec 62 H (whd Try.prog H 20 args) (cfg.know 62)) ∧ (∀ (rec : Rec) (args : List Value) (H : AH), callS Try.prog cfg rec 63 args H = wlf rec 63 H (whd Try.prog H 20 args) (cfg.know 63)) ∧ (∀ (rec : Rec) (args : List Value) (H : AH), callS Try.prog cfg rec 67 args H = wlf rec 67 H (whd Try.prog H 20 args) (cfg.know 67)) ∧ (∀ (rec : Rec) (args : List Value) (H : AH), callS Try.prog cfg rec 68 args H = wlf rec 68 H (some (args, [])) (cfg.know 68)) ∧ (∀ (rec : Rec) (args : List Value) (H : AH), callS Try.prog cfg rec 69 args H = wlf rec 69 H (whd Try.prog H 20 args) (cfg.know 69)) ∧ (∀ (rec : Rec) (args : List Value) (H : AH), callS Try.prog cfg rec 78 args H = wlf rec 78 H (whd Try.prog H 20 args) (cfg.know 78)) ∧ (∀ (rec : Rec) (args : List Value) (H : AH), callS Try.prog cfg rec 86 args H = wlf rec 86 H (whd Try.prog H 20 args) (cfg.know 86)) ∧ (∀ (rec : Rec) (args : List Value) (H : AH), callS Try.prog cfg rec 87 args H = wlf rec 87 H (whd Try.prog H 20 args) (cfg.know 87)) ∧ (∀ (rec : Rec) (args : List Value) (H : AH), callS Try.prog cfg rec 88 args H = wlf rec 88 H (whd Try.prog H 20 args) (cfg.know 88)) ∧ (∀ (rec : Rec) (args : List Value) (H : AH), callS Try.prog cfg rec 89 args H = wlf rec 89 H (whd Try.prog H 20 args) (cfg.know 89)) ∧ (∀ (rec : Rec) (args : List Value) (H : AH), callS Try.prog cfg rec 90 args H = wlf rec 90 H (whd Try.prog H 20 args) (cfg.know 90)) ∧ (∀ (rec : Rec) (args : List Value) (H : AH), callS Try.prog cfg rec 94 args H = wlf rec 94 H (whd Try.prog H 20 args) (cfg.know 94)) ∧ (∀ (rec : Rec) (args : List Value) (H : AH), callS Try.prog cfg rec 95 args H = wlf rec 95 H (whd Try.prog H 20 args) (cfg.know 95)) ∧ (∀ (rec : Rec) (args : List Value) (H : AH), callS Try.prog cfg rec 96 args H = wlf rec 96 H (whd Try.prog H 20 args) (cfg.know 96)) ∧ (∀ (rec : Rec) (args : List Value) (H : AH), callS Try.prog cfg rec 97 args H = wlf rec 97 H (whd Try.prog H 20 args) (cfg.know 97)) ∧ (∀ (rec : Rec) (args : List Value) (H : AH), callS Try.prog cfg rec 98 args H = wlf rec 98 H (whd Try.prog H 20 args) (cfg.know 98)) ∧ (∀ (rec : Rec) (args : List Value) (H : AH), callS Try.prog cfg rec 99 args H = wlf rec 99 H (some (args, [])) (cfg.know 99)) ∧ (∀ (rec : Rec) (args : List Value) (H : AH), callS Try.prog cfg rec 100 args H = wlf rec 100 H (whd Try.prog H 20 args) (cfg.know 100)) ∧ (∀ (rec : Rec) (args : List Value) (H : AH), callS Try.prog cfg rec 106 args H = wlf rec 106 H (whd Try.prog H 20 args) (cfg.know 106)) ∧ (∀ (rec : Rec) (args : List Value) (H : AH), callS Try.prog cfg rec 107 args H = wlf rec 107 H (whd Try.prog H 20 args) (cfg.know 107)) ∧ (∀ (rec : Rec) (args : List Value) (H : AH), callS Try.prog cfg rec 108 args H = wlf rec 108 H (whd Try.prog H 20 args) (cfg.know 108)) ∧ (∀ (rec : Rec) (args : List Value) (H : AH), callS Try.prog cfg rec 114 args H = wlf rec 114 H (whd Try.prog H 20 args) (cfg.know 114)) ∧ (∀ (rec : Rec) (args : List Value) (H : AH), callS Try.prog cfg rec 115 args H = wlf rec 115 H (some (args, [])) (cfg.know 115)) ∧ (∀ (rec : Rec) (args : List Value) (H : AH), callS Try.prog cfg rec 116 args H = wlf rec 116 H (whd Try.prog H 20 args) (cfg.know 116)) ∧ (∀ (rec : Rec) (args : List Value) (H : AH), callS Try.prog cfg rec 117 args H = wlf rec 117 H (whd Try.prog H 20 args) (cfg.know 117)) ∧ (∀ (rec : Rec) (args : List Value) (H : AH), callS Try.prog cfg rec 118 args H = wlf rec 118 H (whd Try.prog H 20 args) (cfg.know 118)) ∧ (∀ (rec : Rec) (args : List Value) (H : AH), callS Try.prog cfg rec 119 args H = wlf rec 119 H (whd Try.prog H 20 args) (cfg.know 119)) ∧ (∀ (rec : Rec) (args : List Value) (H : AH), callS Try.prog cfg rec 120 args H = wlf rec 120 H (whd Try.prog H 20 args) (cfg.know 120)) ∧ (∀ (rec : Rec) (args : List Value) (H : AH), callS Try.prog cfg rec 121 args H = wlf rec 121 H (whd Try.prog H 20 args) (cfg.know 121)) ∧ (∀ (rec : Rec) (args : List Value) (H : AH), callS Try.prog cfg rec 122 args H = wlf rec 122 H (whd Try.prog H 20 args) (cfg.know 122)) ∧ (∀ (rec : Rec) (args : List Value) (H : AH), callS Try.prog cfg rec 123 args H = wlf rec 123 H (whd Try.prog H 20 args) (cfg.know 123)) ∧ (∀ (rec : Rec) (args : List Value) (H : AH), callS Try.prog cfg rec 124 args H = wlf rec 124 H (whd Try.prog H 20 args) (cfg.know 124)) ∧ (∀ (rec : Rec) (args : List Value) (H : AH), callS Try.prog cfg rec 125 args H = wlf rec 125 H (whd Try.prog H 20 args) (cfg.know 125)) ∧ (∀ (rec : Rec) (args : List Value) (H : AH), callS Try.prog cfg rec 132 args H = wlf rec 132 H (whd Try.prog H 20 args) (cfg.know 132)) ∧ (∀ (rec : Rec) (args : List Value) (H : AH), callS Try.prog cfg rec 133 args H = wlf rec 133 H (whd Try.prog H 20 args) (cfg.know 133)) ∧ (∀ (rec : Rec) (args : List Value) (H : AH), callS Try.prog cfg rec 134 args H = wlf rec 134 H (whd Try.prog H 20 args) (cfg.know 134)) ∧ (∀ (rec : Rec) (args : List Value) (H : AH), callS Try.prog cfg rec 148 args H = wlf rec 148 H (whd Try.prog H 20 args) (cfg.know 148)) ∧ (∀ (rec : Rec) (args : List Value) (H : AH), callS Try.prog cfg rec 149 args H = wlf rec 149 H (whd Try.prog H 20 args) (cfg.know 149)) ∧ (∀ (rec : Rec) (args : List Value) (H : AH), callS Try.prog cfg rec 150 args H = wlf rec 150 H (whd Try.prog H 20 args) (cfg.know 150)) ∧ (∀ (rec : Rec) (args : List Value) (H : AH), callS Try.prog cfg rec 151 args H = wlf rec 151 H (whd Try.prog H 20 args) (cfg.know 151)) ∧ (∀ (rec : Rec) (args : List Value) (H : AH), callS Try.prog cfg rec 162 args H = wlf rec 162 H (whd Try.prog H 20 args) (cfg.know 162)) ∧ (∀ (rec : Rec) (args : List Value) (H : AH), callS Try.prog cfg rec 163 args H = wlf rec 163 H (whd Try.prog H 20 args) (cfg.know 163)) := ⟨fun _ _ _ => rfl, fun _ _ _ => rfl, fun _ _ _ => rfl, fun _ _ _ => rfl, fun _ _ _ => rfl, fun _ _ _ => rfl, fun _ _ _ => rfl, fun _ _ _ => rfl, fun _ _ _ => rfl, fun _ _ _ => rfl, fun _ _ _ => rfl, fun _ _ _ => rfl, fun _ _ _ => rfl, fun _ _ _ => rfl, fun _ _ _ => rfl, fun _ _ _ => rfl, fun _ _ _ => rfl, fun _ _ _ => rfl, fun _ _ _ => rfl, fun _ _ _ => rfl, fun _ _ _ => rfl, fun _ _ _ => rfl, fun _ _ _ => rfl, fun _ _ _ => rfl, fun _ _ _ => rfl, fun _ _ _ => rfl, fun _ _ _ => rfl, fun _ _ _ => rfl, fun _ _ _ => rfl, fun _ _ _ => rfl, fun _ _ _ => rfl, fun _ _ _ => rfl, fun _ _ _ => rfl, fun _ _ _ => rfl, fun _ _ _ => rfl, fun _ _ _ => rfl, fun _ _ _ => rfl, fun _ _ _ => rfl, fun _ _ _ => rfl, fun _ _ _ => rfl, fun _ _ _ => rfl, fun _ _ _ => rfl, fun _ _ _ => rfl, fun _ _ _ => rfl, fun _ _ _ => rfl, fun _ _ _ => rfl, fun _ _ _ => rfl, fun _ _ _ => rfl, fun _ _ _ => rfl, fun _ _ _ => rfl, fun _ _ _ => rfl, fun _ _ _ => rfl, fun _ _ _ => rfl⟩
def G0 : (Nat → Option (List Value)) × Bool := (fun _ => none, true)
theorem g0_K : G0.2 = true := rfl
def G1 : (Nat → Option (List Value)) × Bool := (fun _ => none, false)
theorem g1_K : G1.2 = false := rfl
theorem g_K : (cfg.glob, cfg.own 7) = G0 ∧ (cfg.glob, cfg.own 10) = G0 ∧ (cfg.glob, cfg.own 20) = G0 ∧ (cfg.glob, cfg.own 21) = G0 ∧ (cfg.glob, cfg.own 30) = G0 ∧ (cfg.glob, cfg.own 31) = G1 ∧ (cfg.glob, cfg.own 32) = G0 ∧ (cfg.glob, cfg.own 37) = G0 ∧ (cfg.glob, cfg.own 38) = G0 ∧ (cfg.glob, cfg.own 46) = G0 ∧ (cfg.glob, cfg.own 62) = G0 ∧ (cfg.glob, cfg.own 63) = G0 ∧ (cfg.glob, cfg.own 67) = G0 ∧ (cfg.glob, cfg.own 68) = G1 ∧ (cfg.glob, cfg.own 69) = G1 ∧ (cfg.glob, cfg.own 78) = G0 ∧ (cfg.glob, cfg.own 86) = G0 ∧ (cfg.glob, cfg.own 87) = G0 ∧ (cfg.glob, cfg.own 88) = G0 ∧ (cfg.glob, cfg.own 89) = G0 ∧ (cfg.glob, cfg.own 90) = G0 ∧ (cfg.glob, cfg.own 94) = G0 ∧ (cfg.glob, cfg.own 95) = G0 ∧ (cfg.glob, cfg.own 96) = G0 ∧ (cfg.glob, cfg.own 97) = G0 ∧ (cfg.glob, cfg.own 98) = G0 ∧ (cfg.glob, cfg.own 99) = G1 ∧ (cfg.glob, cfg.own 100) = G0 ∧ (cfg.glob, cfg.own 106) = G0 ∧ (cfg.glob, cfg.own 107) = G0 ∧ (cfg.glob, cfg.own 108) = G0 ∧ (cfg.glob, cfg.own 114) = G0 ∧ (cfg.glob, cfg.own 115) = G1 ∧ (cfg.glob, cfg.own 121) = G0 ∧ (cfg.glob, cfg.own 125) = G0 ∧ (cfg.glob, cfg.own 132) = G0 ∧ (cfg.glob, cfg.own 133) = G0 ∧ (cfg.glob, cfg.own 134) = G0 ∧ (cfg.glob, cfg.own 148) = G0 ∧ (cfg.glob, cfg.own 149) = G0 ∧ (cfg.glob, cfg.own 150) = G0 ∧ (cfg.glob, cfg.own 151) = G0 ∧ (cfg.glob, cfg.own 162) = G0 ∧ (cfg.glob, cfg.own 163) = G0 := ⟨rfl, rfl, rfl, rfl, rfl, rfl, rfl, rfl, rfl, rfl, rfl, rfl, rfl, rfl, rfl, rfl, rfl, rfl, rfl, rfl, rfl, rfl, rfl, rfl, rfl, rfl, rfl, rfl, rfl, rfl, rfl, rfl, rfl, rfl, rfl, rfl, rfl, rfl, rfl, rfl, rfl, rfl, rfl, rfl⟩
theorem kn_K : cfg.know 10 = none ∧ cfg.know 20 = none ∧ cfg.know 21 = none ∧ cfg.know 30 = none ∧ cfg.know 31 = none ∧ cfg.know 32 = none ∧ cfg.know 37 = none ∧ cfg.know 38 = none ∧ cfg.know 46 = none ∧ cfg.know 62 = none ∧ cfg.know 63 = none ∧ cfg.know 67 = none ∧ cfg.know 68 = none ∧ cfg.know 69 = none ∧ cfg.know 78 = none ∧ cfg.know 86 = none ∧ cfg.know 87 = none ∧ cfg.know 88 = none ∧ cfg.know 89 = none ∧ cfg.know 90 = none ∧ cfg.know 94 = none ∧ cfg.know 95 = none ∧ cfg.know 96 = none ∧ cfg.know 97 = none ∧ cfg.know 98 = none ∧ cfg.know 99 = none ∧ cfg.know 100 = none ∧ cfg.know 106 = none ∧ cfg.know 107 = none ∧ cfg.know 108 = none ∧ cfg.know 114 = none ∧ cfg.know 115 = none ∧ cfg.know 116 = none ∧ cfg.know 117 = none ∧ cfg.know 118 = none ∧ cfg.know 119 = none ∧ cfg.know 120 = none ∧ cfg.know 121 = none ∧ cfg.know 122 = none ∧ cfg.know 123 = none ∧ cfg.know 124 = none ∧ cfg.know 125 = none ∧ cfg.know 132 = none ∧ cfg.know 133 = none ∧ cfg.know 134 = none ∧ cfg.know 149 = none ∧ cfg.know 151 = none ∧ cfg.know 162 = none ∧ cfg.know 163 = none := ⟨rfl, rfl, rfl, rfl, rfl, rfl, rfl, rfl, rfl, rfl, rfl, rfl, rfl, rfl, rfl, rfl, rfl, rfl, rfl, rfl, rfl, rfl, rfl, rfl, rfl, rfl, rfl, rfl, rfl, rfl, rfl, rfl, rfl, rfl, rfl, rfl, rfl, rfl, rfl, rfl, rfl, rfl, rfl, rfl, rfl, rfl, rfl, rfl, rfl⟩
theorem kw_K : ∀ (rec : Rec) (H : AH) (fr : Frs), wlf rec 39 H (some ([], fr)) (cfg.know 39) = .did (.bool true) none true (raise H fr) (wbr fr) := fun _ _ _ => by kernel_rfl
theorem tsz_K : tsz Try.prog 3 = 1 ∧ tsz Try.prog 5 = 1 ∧ tsz Try.prog 46 = 9 ∧ tsz Try.prog 81 = 9 := ⟨by kernel_rfl, by kernel_rfl, by kernel_rfl, by kernel_rfl⟩
theorem raw_K : (cfg.raw 7).2 = false ∧ (cfg.raw 10).2 = false ∧ (cfg.raw 20).2 = false ∧ (cfg.raw 21).2 = false ∧ (cfg.raw 30).2 = false ∧ (cfg.raw 31).2 = false ∧ (cfg.raw 32).2 = false ∧ (cfg.raw 37).2 = false ∧ (cfg.raw 38).2 = false ∧ (cfg.raw 46).2 = false ∧ (cfg.raw 62).2 = false ∧ (cfg.raw 63).2 = false ∧ (cfg.raw 67).2 = false ∧ (cfg.raw 68).2 = false ∧ (cfg.raw 69).2 = false ∧ (cfg.raw 78).2 = false ∧ (cfg.raw 86).2 = false ∧ (cfg.raw 87).2 = true ∧ (cfg.raw 88).2 = false ∧ (cfg.raw 89).2 = false ∧ (cfg.raw 90).2 = false ∧ (cfg.raw 94).2 = false ∧ (cfg.raw 95).2 = false ∧ (cfg.raw 96).2 = false ∧ (cfg.raw 97).2 = false ∧ (cfg.raw 98).2 = false ∧ (cfg.raw 99).2 = false ∧ (cfg.raw 100).2 = false ∧ (cfg.raw 106).2 = false ∧ (cfg.raw 107).2 = false ∧ (cfg.raw 108).2 = false ∧ (cfg.raw 114).2 = false ∧ (cfg.raw 115).2 = false ∧ (cfg.raw 121).2 = false ∧ (cfg.raw 125).2 = false ∧ (cfg.raw 132).2 = false ∧ (cfg.raw 133).2 = false ∧ (cfg.raw 134).2 = false ∧ (cfg.raw 148).2 = false ∧ (cfg.raw 149).2 = false ∧ (cfg.raw 150).2 = false ∧ (cfg.raw 151).2 = false ∧ (cfg.raw 162).2 = false ∧ (cfg.raw 163).2 = false := ⟨rfl, rfl, rfl, rfl, rfl, rfl, rfl, rfl, rfl, rfl, rfl, rfl, rfl, rfl, rfl, rfl, rfl, rfl, rfl, rfl, rfl, rfl, rfl, rfl, rfl, rfl, rfl, rfl, rfl, rfl, rfl, rfl, rfl, rfl, rfl, rfl, rfl, rfl, rfl, rfl, rfl, rfl, rfl, rfl⟩
theorem kK : type_of% @raw_K ∧ (type_of% @wajc ∧ type_of% @g_K) ∧ ((type_of% @g0_K ∧ type_of% @g1_K) ∧ type_of% @tsz_K) ∧ (type_of% @kn_K ∧ type_of% @kw_K) := ⟨@raw_K, ⟨@wajc, @g_K⟩, ⟨⟨@g0_K, @g1_K⟩, @tsz_K⟩, ⟨@kn_K, @kw_K⟩⟩
theorem wxj : cfg.live 7 (wnc (wdb 0)) = some ([5, 9, 10, 12, 14, 15, 16, 17, 79, 80, 81], [5, 9, 10, 12, 14, 15, 16, 17], 999999) := by kernel_rfl
theorem wyj : cfg.live 7 (wnc (wdb 1)) = some ([5, 9, 10, 12, 14, 15, 16, 17, 91, 92, 93], [5, 9, 10, 12, 14, 15, 16, 17], 999999) := by kernel_rfl
theorem wzj : cfg.live 7 (wnc (wdb 2)) = some ([5, 9, 10, 12, 16, 22, 112, 113, 114], [5, 9, 10, 16, 22], 999999) := by kernel_rfl
theorem wrh : cfg.live 7 (wnc (wdb 3)) = some ([5, 9, 10, 12, 16, 22, 112, 113, 114, 121, 122, 123], [5, 9, 10, 12, 16, 22, 112, 113, 114], 999999) := by kernel_rfl
theorem wak : cfg.live 7 (wnc (wdb 4)) = some ([5, 9, 10, 22, 134, 135, 136], [5, 8, 9, 10, 22], 999999) := by kernel_rfl
theorem wbk : cfg.live 7 (wnc (wdb 5)) = some ([9, 10, 22, 29, 30, 154, 155, 156], [8, 9, 22, 29, 30], 999999) := by kernel_rfl
theorem wtf : cfg.live 7 (wnc (wdb 6)) = some ([9, 10, 22, 29, 30, 32, 154, 155, 156, 179, 180, 181], [8, 9, 10, 22, 29, 30, 154, 155, 156], 999999) := by kernel_rfl
theorem wij : cfg.live 21 (wnc (wmk 0)) = some ([0, 1, 5, 6], [5], 999999) := by kernel_rfl
theorem wnk : cfg.live 31 (wnc (wcn 0)) = some ([9, 16, 17, 18], [9], 999999) := by kernel_rfl
theorem wwr : cfg.live 32 (wnc (wor 0)) = some ([0, 1, 3], [0, 1], 999999) := by kernel_rfl
theorem wst : cfg.live 37 (wnc (wso 0)) = some ([2, 3, 6, 7, 8], [2, 3], 999999) := by kernel_rfl
theorem wxr : cfg.live 38 (wnc (wur 0)) = some ([1, 2, 4], [1, 2], 999999) := by kernel_rfl
theorem wug : cfg.live 67 (wnc (wdc 0)) = some ([4, 5, 8, 80, 81, 82], [8], 999999) := by kernel_rfl
theorem wof : cfg.live 67 (wnc (wdc 1)) = some ([3, 5, 11, 108, 109, 110], [11], 999999) := by kernel_rfl
theorem wvg : cfg.live 67 (wnc (wdc 2)) = some ([3, 7, 128, 129, 130], [7], 999999) := by kernel_rfl
theorem wnh : cfg.live 69 (wnc (wef 0)) = some ([0, 3], [0, 2], 999999) := by kernel_rfl
theorem wle : cfg.live 87 (wnc (whf 0)) = some ([1, 3, 6, 7, 8, 9], [6, 7], 999999) := by kernel_rfl
theorem wyr : cfg.live 88 (wnc (wqr 0)) = some ([3, 7, 8, 9], [3], 999999) := by kernel_rfl
theorem wbc : cfg.live 90 (wnc (wlk 0)) = some ([0, 2, 77, 78, 79], [6], 999999) := by kernel_rfl
theorem wzd : cfg.live 96 (wnc (wki 0)) = some ([0, 6, 7, 8], [], 999999) := by kernel_rfl
theorem wpf : cfg.live 97 (wnc (wmj 0)) = some ([3, 4, 7, 11, 12, 13], [7], 999999) := by kernel_rfl
theorem wbb : cfg.live 98 (wnc (wtg 0)) = some ([0, 1, 5, 52, 53, 54], [0, 1, 5], 999999) := by kernel_rfl
theorem wpe : cfg.live 99 (wnc (wee 0)) = some ([0, 1, 2, 3, 8, 9], [], 999999) := by kernel_rfl
theorem wmc : cfg.live 115 (wnc (wpb 0)) = some ([0, 1, 2, 6], [], 999999) := by kernel_rfl
theorem wod : cfg.live 115 (wnc (wpb 1)) = some ([0, 1, 2, 6, 7], [0, 1, 2, 6], 999999) := by kernel_rfl
theorem wuf : cfg.live 132 (wnc (wce 0)) = some ([2, 3, 4, 20], [2, 3], 999999) := by kernel_rfl
theorem wsh : cfg.live 132 (wnc (wce 1)) = some ([2, 3, 4, 36], [2, 3], 999999) := by kernel_rfl
theorem wcc : cfg.live 162 (wnc (wde 0)) = some ([0, 1, 7, 8], [4], 999999) := by kernel_rfl
theorem wbe : cfg.live 163 (wnc (wbh 0)) = some ([0, 1, 7, 8], [4], 999999) := by kernel_rfl
end
end Go.Proofs.Ytjihbfdbgamcdaa
namespace Go.Proofs.Ytjihbfdbgamcdaa
set_option linter.unusedVariables false
set_option linter.unusedSimpArgs false
open Go.Den
noncomputable section
def wkc (n lo hi : Int) : Int := if n.tmod (hi - lo + 1) < 0 then lo + (n.tmod (hi - lo + 1) + hi - lo + 1) else lo + n.tmod (hi - lo + 1)
theorem wbg (n lo hi : Int) (h1 : -1000000 ≤ lo) (h2 : lo ≤ hi) (h3 : hi ≤ 1000000) : lim Try.prog cfg (.call 10 [.int .i64 n, .int .i64 lo, .int .i64 hi]) (HP []) = some (.val (.int .i64 (wkc n lo hi)), HP []) := by
 refine wkb hc wps (Nat.le_of_ble_eq_true rfl) (Nat.le_of_ble_eq_true rfl) ?_
 unfold wbp wkc
 have hb : -(hi - lo + 1) < n.tmod (hi - lo + 1) ∧ n.tmod (hi - lo + 1) < hi - lo + 1 := by
  have := Int.emod_nonneg n (show hi - lo + 1 ≠ 0 by omega)
  have h5 := Int.emod_lt_of_pos n (show 0 < hi - lo + 1 by omega)
  rw [Int.tmod_eq_emod]
  split <;> omega
 (repeat' (first | (simp -implicitDefEqProofs (maxSteps := 2000000) (disch := first | with_reducible assumption | omega | (simp only [zS, zA, seval] <;> omega) | fail) only [zS, argl, insA, Go.Den.wm, wo, wu, looks, wab, wz, idOf, riA, seval, Go.Den.wh, kK, *]) | (with_reducible (first | apply z1 | apply z2 | apply z3 | apply z4) <;> intro hq <;> (try simp only [zH] at hq) <;> (try (exfalso; omega)))))
def wrv : Mt := ⟨[-1, -1, -1, -1, -1, -1, -1, -1], rfl⟩
theorem whmb (m : Mt) (i j : Nat) (a : Int) : (m.put i a).at j = if i = j ∧ j < 8 then a else m.at j := by
 rw [Mt.at, Mt.at, Mt.put, List.getD_eq_getElem?_getD, List.getD_eq_getElem?_getD, List.getElem?_set, m.2]
 by_cases h1 : i = j
 ·subst h1
  by_cases h2 : i < 8
  ·simp [h2]
  ·have h3 := m.2
   simp [h2]
   rw [List.getElem?_eq_none (by omega)]
   rfl
 ·simp [h1]
theorem wbjc (z : List Value) : ∀ (k i : Nat) (m : Mt), i + k = 4 → (∀ j, j < 2 * i → m.at j = -1) →
  lim Try.prog cfg (.loop 32 0 (wor 0) (SE (EJ 11 G0) [(3, .int .i64 i), (1, .pointer (some ⟨1, 0, none⟩)), (0, .pointer (some ⟨0, 0, none⟩))])) (HP [X z 52 0 true, X (mtC m) 52 0 true]) = some (.code (.exit 0) (SE (EJ 11 G0) [(1, .pointer (some ⟨1, 0, none⟩)), (0, .pointer (some ⟨0, 0, none⟩))]), HP [X z 52 0 true, X (mtC wrv) 52 0 true]) := by
 intro k
 induction k with
 | zero =>
  intro i m hi hm
  have : m = wrv := by
   apply Subtype.ext
   apply List.ext_getElem (by rw [m.2]; rfl)
   intro j h1 h2
   have h3 := hm j (by rw [m.2] at h1; omega)
   rw [Mt.at, List.getD_eq_getElem?_getD, List.getElem?_eq_getElem h1] at h3
   have h4 : wrv.1[j] = -1 := by
    have : ∀ x ∈ wrv.1, x = -1 := by decide
    exact this _ (List.getElem_mem h2)
   rw [h4]
   exact h3
  subst this
  refine web wcs ?_
  unfold wpr
  (repeat' (first | (simp -implicitDefEqProofs (maxSteps := 2000000) (disch := first | with_reducible assumption | omega | (simp only [zS, zA, seval, zD] <;> omega) | fail) only [zS, argl, insA, Go.Den.wm, wo, wu, looks, wab, wz, idOf, riA, seval, Go.Den.wh, kK, wwr, *, zT]) | (with_reducible (first | apply z1 | apply z2 | apply z3 | apply z4) <;> intro hq <;> (try simp only [zH] at hq) <;> (try (exfalso; omega)))))
 | succ k ih =>
  intro i m hi hm
  refine web wcs ?_
  unfold wpr
  (repeat' (first | (simp -implicitDefEqProofs (maxSteps := 2000000) (disch := first | with_reducible assumption | omega | (simp only [zS, zA, seval, zD] <;> omega) | fail) only [zS, argl, insA, Go.Den.wm, wo, wu, looks, wab, wz, idOf, riA, seval, Go.Den.wh, kK, wwr, *, zT]) | (with_reducible (first | apply z1 | apply z2 | apply z3 | apply z4) <;> intro hq <;> (try simp only [zH] at hq) <;> (try (exfalso; omega)))))
  refine ih (i + 1) _ (by omega) fun j hj => ?_
  rw [whmb, whmb]
  split
  ·rfl
  ·split
   ·rfl
   ·exact hm j (by omega)
theorem ev_None : lim Try.prog cfg (.call 32 []) (HP []) = some (.val (.agg ⟨mtC wrv⟩), HP []) := by
 refine wkb hc waeb (Nat.le_of_ble_eq_true rfl) (Nat.le_of_ble_eq_true rfl) ?_
 unfold wqcb
 have h := wbjc (mtC Mt.zero) 4 0 Mt.zero rfl (fun j hj => by omega)
 rw [show ((0 : Nat) : Int) = 0 from rfl, show mtC Mt.zero = [.int .i64 0, .int .i64 0, .int .i64 0, .int .i64 0, .int .i64 0, .int .i64 0, .int .i64 0, .int .i64 0] from rfl] at h
 (repeat' (first | (simp -implicitDefEqProofs (maxSteps := 2000000) (disch := first | with_reducible assumption | omega | (simp only [zS, zA, seval, zD] <;> omega) | fail) only [zS, argl, insA, Go.Den.wm, wo, wu, looks, wab, wz, idOf, riA, seval, Go.Den.wh, kK, wwr, h, *, zT]) | (with_reducible (first | apply z1 | apply z2 | apply z3 | apply z4) <;> intro hq <;> (try simp only [zH] at hq) <;> (try (exfalso; omega)))))
theorem ev_Has (s : BitVec 256) (x : Nat) (hx : x < 256) : lim Try.prog cfg (.call 46 [.agg ⟨setC s⟩, .int .u8 x]) (HP []) = some (.val (.bool (s.getLsbD x)), HP []) := by
 refine wkb hc wdeb (Nat.le_of_ble_eq_true rfl) (Nat.le_of_ble_eq_true rfl) ?_
 unfold wtcb
 have h1 : BitVec.ofInt (IntKind.bits .u64) 1 = BitVec.ofInt (IntKind.bits .u64) (((1#64).toNat : Nat) : Int) := rfl
 (repeat' (first | (simp -implicitDefEqProofs (maxSteps := 2000000) (disch := first | with_reducible assumption | omega | (simp only [zS, zA, seval, zD] <;> omega) | fail) only [zS, argl, insA, Go.Den.wm, wo, wu, looks, wab, wz, idOf, riA, seval, Go.Den.wh, kK, wuab, shr_u64, h1, and_u64, bit_one, *, zT]) | (with_reducible (first | apply z1 | apply z2 | apply z3 | apply z4) <;> intro hq <;> (try simp only [zH] at hq) <;> (try (exfalso; omega)))))
 have e1 : ((x : Int) / 64).toNat = x / 64 := by omega
 have e2 : ((x : Int) % 64).toNat = x % 64 := by omega
 rw [e1, e2, has_bit s x hx]
end
end Go.Proofs.Ytjihbfdbgamcdaa
namespace Go.Den
noncomputable section
variable {P : Program}
def nfX : Option ABlk → Bool
 | some (.cells b) => isNil b.lens && (Nat.beq b.wver 0 && !b.pf)
 | _ => false
theorem wvf {cs : List Value} {t z : Nat} : nfX (some (X cs t z false)) = true := rfl
def rowU (i n k : Nat) : Option (List Value × Frs) → Option (Value × Frs)
 | some (cs, f) => bif wqb cs then some (FL n cs, (i, k) :: f) else none
 | none => none
theorem wed {i n k : Nat} {cs : List Value} {f : Frs} : rowU i n k (some (cs, f)) = bif wqb cs then some (FL n cs, (i, k) :: f) else none := rfl
def rowT (P : Program) (i n c : Nat) (sl : List Value → Option (List Value × Frs)) : Option ABlk → Option (Value × Frs)
 | some (.cells b) => bif Nat.ble n c && (Nat.blt 0 (tsz P b.elem) && Nat.ble (n * tsz P b.elem) b.cells.length) then rowU i n (n * tsz P b.elem) (sl (slotsOf b.cells 0 (n * tsz P b.elem))) else none
 | _ => none
theorem wpi {i n c : Nat} {sl : List Value → Option (List Value × Frs)} {cs : List Value} {t z : Nat} {pf : Bool} : rowT P i n c sl (some (X cs t z pf)) = bif Nat.ble n c && (Nat.blt 0 (tsz P t) && Nat.ble (n * tsz P t) cs.length) then rowU i n (n * tsz P t) (sl (slotsOf cs 0 (n * tsz P t))) else none := rfl
theorem wfd {h : List ABlk} (hh : h.length ≤ 1099511627774) {i n c : Nat} {sl : List Value → Option (List Value × Frs)} (hx : nfX h[i]? = true) :
  wpg P (HP h) sl (.slice (some ⟨i, 0, none⟩) (n + 1) (c + 1)) = rowT P i (n + 1) c sl h[i]? := by
 show wyn P (HP h) sl ⟨i, 0, none⟩ (n + 1) (c + 1) = _
 unfold wyn
 rw [wyg h hh]
 cases hb : h[i]? with
 | none => rw [hb] at hx; cases hx
 | some b =>
  rw [hb] at hx
  cases b with
  | map es => cases hx
  | tok a b c => cases hx
  | cells b =>
   have hx : (isNil b.lens && (Nat.beq b.wver 0 && !b.pf)) = true := hx
   simp only [Bool.and_eq_true, Nat.beq_eq, Bool.not_eq_true'] at hx
   obtain ⟨h3, h4, h7⟩ := hx
   have h5 : b.lens = [] := by cases hl : b.lens with | nil => rfl | cons a r => rw [hl] at h3; cases h3
   have e0 : wxh P b = tsz P b.elem := by unfold wxh; rw [h5]; rfl
   have hi : wac i = true := wrg (by have := wzx hb; omega)
   have h6 : rdOk b (aver ⟨i, 0, none⟩) (0 + (n + 1) * tsz P b.elem) = Nat.ble ((n + 1) * tsz P b.elem) b.cells.length := by
    unfold rdOk
    have e1 : b.top = 0 := by unfold CBlk.top; rw [h5]; rfl
    have e2 : b.lenAt 0 = b.cells.length := by unfold CBlk.lenAt; rw [h5]
    rw [h4, e1]
    show (Nat.ble 0 0 && (Nat.ble 0 0 && Nat.ble (0 + (n + 1) * tsz P b.elem) (b.lenAt 0))) = _
    rw [e2, Nat.zero_add, nble 0 0]
    simp
   simp only [e0, h6, h7, cond_false]
   show (bif (Nat.ble (n + 1) c && Nat.blt 0 (tsz P b.elem)) && Nat.ble ((n + 1) * tsz P b.elem) b.cells.length then _ else none) = (bif Nat.ble (n + 1) c && (Nat.blt 0 (tsz P b.elem) && Nat.ble ((n + 1) * tsz P b.elem) b.cells.length) then _ else none)
   rw [Bool.and_assoc]
   cases (Nat.ble (n + 1) c && (Nat.blt 0 (tsz P b.elem) && Nat.ble ((n + 1) * tsz P b.elem) b.cells.length)) with
   | false => rfl
   | true =>
    simp only [cond_true, hi, Bool.and_true, Nat.zero_add]
    cases sl (slotsOf b.cells 0 ((n + 1) * tsz P b.elem)) <;> rfl
end
end Go.Den
namespace Go.Den
noncomputable section
theorem wvk : nfL [] = [] := rfl
theorem wth {v : Value} {r : List Value} : nfL (v :: r) = nfV v :: nfL r := rfl
theorem wjo {k : IntKind} {n : Int} : nfV (.int k n) = .int k n := rfl
theorem wdv {n : Nat} {cs : List Value} : nfV (FL n cs) = FL n cs := rfl
theorem wwk : nfV (.slice none 0 0) = FL 0 [] := rfl
theorem wup {h : List ABlk} (hh : h.length ≤ 1099511627774) {elem size bytes t len n : Nat} {cs new : List Value} (ht : t < h.length) (hn : len + n ≤ 16777216) (hb : bytes ≤ 1048576) (hc : cs.length = len * size) (ha : wai (nfL new) = true) :
  appN h elem size bytes (FO t len cs) n new = appT h elem size t len n cs (nfL new) h[t]? := by
 show (bif roomy (len + n) bytes then wxq (HP h) elem size t len cs (nfL new) n else .none) = _
 have h1 : roomy (len + n) bytes = true := by unfold roomy; rw [nble, nble, decide_eq_true hn, decide_eq_true hb]; rfl
 rw [h1, cond_true]
 generalize nfL new = new at *
 unfold wxq
 rw [wyg h hh]
 cases hq : h[t]? with
 | none => rfl
 | some b =>
  cases b with
  | cells b => rfl
  | map es => rfl
  | tok m el es =>
   show (bif wgv m el es elem size t len cs new then _ else _) = (bif decide (m = len ∧ el = elem ∧ es = size) then _ else _)
   have h2 : wgv m el es elem size t len cs new = decide (m = len ∧ el = elem ∧ es = size) := by
    unfold wgv
    rw [wqn ha, wlt ha, hc, Nat.beq_refl, wrg (by omega), nbeq, nbeq, nbeq]
    by_cases q1 : m = len <;> by_cases q2 : el = elem <;> by_cases q3 : es = size <;> simp [q1, q2, q3]
   rw [h2, wfo _ _ _ ht]
   by_cases q : m = len ∧ el = elem ∧ es = size
   ·obtain ⟨rfl, rfl, rfl⟩ := q; rfl
   ·rw [decide_eq_false q]; rfl
theorem wcjc {h : List ABlk} {elem size bytes : Nat} {s : Value} {t n : Nat} {cs : List Value} (h0 : 0 < n) (hc : n * size ≤ cs.length) : appA true (HP h) elem size bytes s (FO t n cs) = appN h elem size bytes s n (slotsOf cs 0 (n * size)) := by
 have h1 : appA true (HP h) elem size bytes s (FO t n cs) = appA true (HP h) elem size bytes s (FL n cs) := rfl
 rw [h1, app_FL h0 hc]
def appE (h : List ABlk) (elem size : Nat) (len n : Nat) (new : List Value) : Option ABlk → ARes
 | some (.cells b) => bif decide (len * size ≤ b.cells.length) then wpl true (HP h) elem size (slotsOf b.cells 0 (len * size) ++ new) (len + n) else .none
 | _ => .none
theorem wgm {h : List ABlk} (hh : h.length ≤ 1099511627774) {elem size bytes i len c n : Nat} {new : List Value} (hx : wktb h[i]? = true) (hc : len + 1 ≤ c) (hg : c < len + 1 + n) (hr : len + 1 + n ≤ 16777216) (hb : bytes ≤ 1048576) :
  appN h elem size bytes (.slice (some ⟨i, 0, none⟩) (len + 1) (c + 1)) n new = appE h elem size (len + 1) n new h[i]? := by
 show (bif roomy (len + 1 + n) bytes && Nat.ble (len + 1) c then wyq true (HP h) elem size (.slice (some ⟨i, 0, none⟩) (len + 1) (c + 1)) ⟨i, 0, none⟩ (len + 1) c n new else .none) = _
 have h1 : roomy (len + 1 + n) bytes = true := by unfold roomy; rw [nble, nble, decide_eq_true hr, decide_eq_true hb]; rfl
 rw [h1, nble, decide_eq_true hc]
 unfold wyq
 rw [nble, decide_eq_false (by omega)]
 have h2 : wbl (HP h) size (len + 1) (.slice (some ⟨i, 0, none⟩) (len + 1) (c + 1)) = match wzi (HP h) ⟨i, 0, none⟩ ((len + 1) * size) with
  | some b => some (slotsOf b.cells 0 ((len + 1) * size))
  | none => none := by
  show (bif Nat.ble (len + 1) (len + 1) && Nat.blt 0 (len + 1) then _ else none) = _
  rw [nble, nblt, decide_eq_true (Nat.le_refl _), decide_eq_true (Nat.succ_pos _)]
  rfl
 simp only [h2, Bool.and_self, cond_true, cond_false]
 unfold wzi
 rw [wyg h hh]
 cases hq : h[i]? with
 | none => rw [hq] at hx; cases hx
 | some b =>
  rw [hq] at hx
  cases b with
  | cells b =>
   have hx : (isNil b.lens && Nat.beq b.wver 0) = true := hx
   simp only [Bool.and_eq_true, Nat.beq_eq] at hx
   obtain ⟨h3, h4⟩ := hx
   have h5 : b.lens = [] := by cases hl : b.lens with | nil => rfl | cons a r => rw [hl] at h3; cases h3
   have h6 : rdOk b (aver ⟨i, 0, none⟩) (0 + (len + 1) * size) = decide ((len + 1) * size ≤ b.cells.length) := by
    unfold rdOk
    have e1 : b.top = 0 := by unfold CBlk.top; rw [h5]; rfl
    have e2 : b.lenAt 0 = b.cells.length := by unfold CBlk.lenAt; rw [h5]
    rw [h4, e1]
    show (Nat.ble 0 0 && (Nat.ble 0 0 && Nat.ble (0 + (len + 1) * size) (b.lenAt 0))) = _
    rw [e2, Nat.zero_add, nble, nble]
    simp
   simp only [h6]
   by_cases hk : (len + 1) * size ≤ b.cells.length
   ·simp only [decide_eq_true hk, cond_true, appE]
   ·simp only [decide_eq_false hk, cond_false, appE]
  | map es => cases hx
  | tok a b c => cases hx
theorem waab {h : List ABlk} (hh : h.length ≤ 1099511627774) {elem size len n : Nat} {cs new : List Value} {t z : Nat} {pf : Bool} (hl : len * size ≤ cs.length) (ha : wai (nfL (slotsOf cs 0 (len * size) ++ new)) = true) :
  appE h elem size len n new (some (X cs t z pf)) = .eff (FO h.length (len + n) (nfL (slotsOf cs 0 (len * size) ++ new))) (HP (h ++ [.tok (len + n) elem size])) := by
 show (bif decide (len * size ≤ cs.length) then wpl true (HP h) elem size (slotsOf cs 0 (len * size) ++ new) (len + n) else .none) = _
 rw [decide_eq_true hl, cond_true]
 show (bif wmdb (HP h) (nfL (slotsOf cs 0 (len * size) ++ new)) then ARes.eff (FO (HP h).n (len + n) (nfL (slotsOf cs 0 (len * size) ++ new))) ((HP h).push (.tok (len + n) elem size)) else .none) = _
 have h2 : wmdb (HP h) (nfL (slotsOf cs 0 (len * size) ++ new)) = true := by
  unfold wmdb
  rw [wqn ha, wlt ha, HP_n, wrg hh]; rfl
 rw [h2, cond_true, HP_n, wao]
end
end Go.Den
namespace Go.Den
noncomputable section
variable {P : Program}
end
end Go.Den
namespace Go.Proofs.Ytjihbfdbgamcdaa
set_option linter.unusedVariables false
set_option linter.unusedSimpArgs false
open Go.Den
noncomputable section
end
end Go.Proofs.Ytjihbfdbgamcdaa
namespace Go.Den
noncomputable section
def addF : List St → List St → List St
 | l, [] => l
 | l, x :: xs => addF (if x ∈ l then l else l ++ [x]) xs
theorem wwab {l : List St} : addF l [] = l := rfl
theorem wdp {l xs : List St} {x : St} : addF l (x :: xs) = addF (if x ∈ l then l else l ++ [x]) xs := rfl
theorem wvu {y : St} : ∀ (xs l : List St), y ∈ addF l xs ↔ y ∈ l ∨ y ∈ xs := by
 intro xs
 induction xs with
 | nil => intro l; simp [addF]
 | cons x xs ih =>
  intro l
  rw [wdp, ih]
  by_cases h : x ∈ l
  ·rw [if_pos h]
   constructor
   ·rintro (h1 | h1)
    ·exact .inl h1
    ·exact .inr (List.mem_cons_of_mem _ h1)
   ·rintro (h1 | h1)
    ·exact .inl h1
    ·rcases List.mem_cons.1 h1 with rfl | h1
     ·exact .inl h
     ·exact .inr h1
  ·rw [if_neg h]
   simp only [List.mem_append, List.mem_cons, List.not_mem_nil, or_false]
   constructor
   ·rintro ((h1 | h1) | h1)
    ·exact .inl h1
    ·exact .inr (.inl h1)
    ·exact .inr (.inr h1)
   ·rintro (h1 | h1 | h1)
    ·exact .inl (.inl h1)
    ·exact .inl (.inr h1)
    ·exact .inr h1
theorem wczb : ∀ (xs l : List St), l.Nodup → (addF l xs).Nodup := by
 intro xs
 induction xs with
 | nil => intro l h; exact h
 | cons x xs ih =>
  intro l h
  rw [wdp]
  by_cases hx : x ∈ l
  ·rw [if_pos hx]; exact ih l h
  ·rw [if_neg hx]
   refine ih _ ?_
   rw [List.nodup_append]
   refine ⟨h, by simp, ?_⟩
   intro a ha b hb
   rw [List.mem_singleton] at hb
   subst hb
   intro hab
   subst hab
   exact hx ha
theorem wmtb : ∀ (xs l : List St), l.length ≤ (addF l xs).length := by
 intro xs
 induction xs with
 | nil => intro l; exact Nat.le_refl _
 | cons x xs ih =>
  intro l
  rw [wdp]
  refine Nat.le_trans ?_ (ih _)
  split
  ·exact Nat.le_refl _
  ·simp
theorem wyl {l xs : List St} (h : l ≠ [] ∨ xs ≠ []) : addF l xs ≠ [] := by
 intro he
 rcases h with h | h
 ·obtain ⟨a, ha⟩ := List.exists_mem_of_ne_nil l h
  have := (wvu xs l).2 (.inl ha)
  rw [he] at this; cases this
 ·obtain ⟨a, ha⟩ := List.exists_mem_of_ne_nil xs h
  have := (wvu xs l).2 (.inr ha)
  rw [he] at this; cases this
def keyF (mn mx n : Int) (x : St) : Int × St := (if mx < 0 then min n mn else n, x)
def onF (w : St → List St) (mn mx : Int) : Nat → Int → St → List (Int × St) × List St → List (Int × St) × List St
 | 0, _, _, a => a
 | k + 1, n, x, a =>
  if keyF mn mx n x ∈ a.1 then a
  else
   let b := if mx < 0 ∨ n < mx then (w x).foldl (fun b y => if y.1 ≠ x.1 ∨ n < mn then onF w mn mx k (n + 1) y b else b) (a.1 ++ [keyF mn mx n x], a.2) else (a.1 ++ [keyF mn mx n x], a.2)
   if n ≥ mn then (b.1, addF b.2 [x]) else b
def wzqb (s : List UInt8) (n : Int) (x : St) : List St :=
 if x.2.at (n.toNat * 2) < 0 then []
 else if x.2.at (n.toNat * 2 + 1) - x.2.at (n.toNat * 2) > s.length - x.1 then []
 else if (s.take (x.2.at (n.toNat * 2 + 1)).toNat).drop (x.2.at (n.toNat * 2)).toNat ≠ (s.take (x.1 + (x.2.at (n.toNat * 2 + 1) - x.2.at (n.toNat * 2))).toNat).drop x.1.toNat then []
 else [(x.1 + (x.2.at (n.toNat * 2 + 1) - x.2.at (n.toNat * 2)), x.2)]
def wimb (w : St → List St) (l : List St) : List St := l.foldl (fun out y => addF out (w y)) []
def groupW (n : Int) (x : St) (l : List St) : List St := l.foldl (fun out y => addF out [(y.1, (y.2.put (n.toNat * 2) x.1).put (n.toNat * 2 + 1) y.1)]) []
mutual
def wcg (s : List UInt8) (bol : Bool) : Rx → St → List St
 | .mk k mn mx n set kids, x =>
  if k = 1 then (if x.1 < s.length ∧ set.getLsbD (s.getD x.1.toNat 0).toNat = true then [(x.1 + 1, x.2)] else [])
  else if k = 7 then (if x.1 = 0 ∧ bol = true then [x] else [])
  else if k = 8 then (if x.1 = s.length then [x] else [])
  else if k = 6 then wzqb s n x
  else if k = 5 then groupW n x (kidF s bol kids x)
  else if k = 3 then altF s bol kids x []
  else if k = 2 then catF s bol kids [x]
  else if k = 4 then (onF (fun y => kidF s bol kids y) mn mx 100 0 x ([], [])).2
  else []
def kidF (s : List UInt8) (bol : Bool) : List Rx → St → List St
 | [], _ => []
 | r :: _, x => wcg s bol r x
def altF (s : List UInt8) (bol : Bool) : List Rx → St → List St → List St
 | [], _, out => out
 | r :: rs, x, out => altF s bol rs x (addF out (wcg s bol r x))
def catF (s : List UInt8) (bol : Bool) : List Rx → List St → List St
 | [], l => l
 | r :: rs, l => catF s bol rs (wimb (fun y => wcg s bol r y) l)
end
mutual
def okR : Rx → Bool
 | .mk k mn mx n _ kids =>
  (if k = 5 then decide (kids ≠ []) && (decide (1 ≤ n) && decide (n ≤ 3)) else if k = 4 then decide (kids ≠ []) && (decide (0 ≤ mn) && (decide (mn ≤ 20) && (decide (-1 ≤ mx) && decide (mx ≤ 20)))) else if k = 6 then decide (1 ≤ n) && decide (n ≤ 3) else true) && okRs kids
def okRs : List Rx → Bool
 | [] => true
 | r :: rs => okR r && okRs rs
end
def wntb (len : Nat) (a b : Int) : Prop := (a = -1 ∧ b = -1) ∨ (0 ≤ a ∧ a ≤ b ∧ b ≤ len)
structure GdS (len : Nat) (x : St) : Prop where
 lo : 0 ≤ x.1
 hi : x.1 ≤ len
 m0 : x.2.at 0 = -1
 m1 : x.2.at 1 = -1
 sp : ∀ g : Nat, 1 ≤ g → g ≤ 3 → wntb len (x.2.at (g * 2)) (x.2.at (g * 2 + 1))
theorem Mt.at_put (m : Mt) (i j : Nat) (a : Int) : (m.put i a).at j = if i = j ∧ j < 8 then a else m.at j := by
 rw [Mt.at, Mt.at, Mt.put, List.getD_eq_getElem?_getD, List.getD_eq_getElem?_getD, List.getElem?_set, m.2]
 by_cases h1 : i = j
 ·subst h1
  by_cases h2 : i < 8
  ·simp [h2]
  ·have h3 := m.2
   simp [h2]
   rw [List.getElem?_eq_none (by omega)]
   rfl
 ·simp [h1]
theorem GdS.move {len : Nat} {x : St} (h : GdS len x) {a : Int} (h1 : 0 ≤ a) (h2 : a ≤ len) : GdS len (a, x.2) := ⟨h1, h2, h.m0, h.m1, h.sp⟩
theorem GdS.group {len : Nat} {x y : St} (hx : GdS len x) (hy : GdS len y) (hxy : x.1 ≤ y.1) {n : Int} (n1 : 1 ≤ n) (n3 : n ≤ 3) : GdS len (y.1, (y.2.put (n.toNat * 2) x.1).put (n.toNat * 2 + 1) y.1) := by
 refine ⟨hy.lo, hy.hi, ?_, ?_, fun g g1 g3 => ?_⟩
 ·show Mt.at _ 0 = -1
  rw [Mt.at_put, if_neg (by omega), Mt.at_put, if_neg (by omega)]; exact hy.m0
 ·show Mt.at _ 1 = -1
  rw [Mt.at_put, if_neg (by omega), Mt.at_put, if_neg (by omega)]; exact hy.m1
 ·show wntb len (Mt.at _ (g * 2)) (Mt.at _ (g * 2 + 1))
  rw [Mt.at_put, Mt.at_put, Mt.at_put, Mt.at_put]
  by_cases h : n.toNat = g
  ·rw [if_neg (by omega), if_pos (by omega), if_pos (by omega)]
   exact .inr ⟨hx.lo, hxy, hy.hi⟩
  ·rw [if_neg (by omega), if_neg (by omega), if_neg (by omega), if_neg (by omega)]
   exact hy.sp g g1 g3
structure RwS (len : Nat) (at0 : Int) (l : List St) : Prop where
 nd : l.Nodup
 good : ∀ y ∈ l, GdS len y ∧ at0 ≤ y.1
theorem RwS.nil {len : Nat} {a : Int} : RwS len a [] := ⟨List.nodup_nil, fun y h => (by cases h)⟩
theorem RwS.one {len : Nat} {a : Int} {x : St} (h : GdS len x) (ha : a ≤ x.1) : RwS len a [x] := ⟨by simp, fun y hy => by rw [List.mem_singleton] at hy; subst hy; exact ⟨h, ha⟩⟩
theorem RwS.add {len : Nat} {a : Int} {l xs : List St} (h : RwS len a l) (hx : ∀ y ∈ xs, GdS len y ∧ a ≤ y.1) : RwS len a (addF l xs) :=
 ⟨wczb _ _ h.nd, fun y hy => by rcases (wvu _ _).1 hy with h1 | h1; exact h.good y h1; exact hx y h1⟩
theorem RwS.fold {len : Nat} {a : Int} {α : Type} (f : α → List St) : ∀ (l : List α), (∀ z ∈ l, ∀ y ∈ f z, GdS len y ∧ a ≤ y.1) → ∀ out, RwS len a out → RwS len a (l.foldl (fun out z => addF out (f z)) out) := by
 intro l
 induction l with
 | nil => intro _ out h; exact h
 | cons z l ih =>
  intro hf out h
  exact ih (fun z' hz' => hf z' (List.mem_cons_of_mem _ hz')) _ (h.add (hf z (List.mem_cons_self ..)))
theorem wjmb {len : Nat} {a0 : Int} {w : St → List St} {mn mx : Int} (hw : ∀ x, GdS len x → a0 ≤ x.1 → RwS len x.1 (w x)) : ∀ (k : Nat) (n : Int) (x : St) (a : List (Int × St) × List St), GdS len x → a0 ≤ x.1 → RwS len a0 a.2 → RwS len a0 (onF w mn mx k n x a).2 := by
 intro k
 induction k with
 | zero => intro n x a _ _ h; exact h
 | succ k ih =>
  intro n x a hx hxa h
  have hf : ∀ (l : List St), (∀ y ∈ l, GdS len y ∧ x.1 ≤ y.1) → ∀ b : List (Int × St) × List St, RwS len a0 b.2 → RwS len a0 (l.foldl (fun b y => if y.1 ≠ x.1 ∨ n < mn then onF w mn mx k (n + 1) y b else b) b).2 := by
   intro l
   induction l with
   | nil => intro _ b hb; exact hb
   | cons y l ih2 =>
    intro hl b hb
    have hy := hl y (List.mem_cons_self ..)
    refine ih2 (fun z hz => hl z (List.mem_cons_of_mem _ hz)) _ ?_
    show RwS len a0 (if y.1 ≠ x.1 ∨ n < mn then onF w mn mx k (n + 1) y b else b).2
    split
    ·exact ih _ _ _ hy.1 (by omega) hb
    ·exact hb
  unfold onF
  split
  ·exact h
  ·simp only
   have hb : RwS len a0 (if mx < 0 ∨ n < mx then (w x).foldl (fun b y => if y.1 ≠ x.1 ∨ n < mn then onF w mn mx k (n + 1) y b else b) (a.1 ++ [keyF mn mx n x], a.2) else (a.1 ++ [keyF mn mx n x], a.2)).2 := by
    split
    ·exact hf (w x) (hw x hx hxa).good _ h
    ·exact h
   split
   ·exact hb.add (fun y hy => by rw [List.mem_singleton] at hy; subst hy; exact ⟨hx, hxa⟩)
   ·exact hb
theorem wotb {len : Nat} {s : List UInt8} (hs : s.length = len) {n : Int} (n1 : 1 ≤ n) (n3 : n ≤ 3) {x : St} (hx : GdS len x) : RwS len x.1 (wzqb s n x) := by
 unfold wzqb
 split
 ·exact .nil
 rename_i h0
 split
 ·exact .nil
 rename_i h1
 split
 ·exact .nil
 have h := hx.sp n.toNat (by omega) (by omega)
 have hlo := hx.lo
 have hhi := hx.hi
 rcases h with h | h
 ·omega
 ·exact .one (hx.move (by omega) (by omega)) (by show x.1 ≤ x.1 + _; omega)
theorem wwu {len : Nat} {s : List UInt8} (hs : s.length = len) {bol : Bool} : ∀ (r : Rx), okR r = true → ∀ x, GdS len x → RwS len x.1 (wcg s bol r x) := by
 refine Rx.rec (motive_1 := fun r => okR r = true → ∀ x, GdS len x → RwS len x.1 (wcg s bol r x))
  (motive_2 := fun kids => okRs kids = true → (∀ r ∈ kids, ∀ x, GdS len x → RwS len x.1 (wcg s bol r x))) ?_ ?_ ?_
 ·intro k mn mx n set kids ih hok x hx
  rw [okR, Bool.and_eq_true] at hok
  have hk := ih hok.2
  have kid : kids ≠ [] → ∀ y, GdS len y → RwS len y.1 (kidF s bol kids y) := by
   intro hne y hy
   cases kids with
   | nil => exact absurd rfl hne
   | cons r rs => rw [kidF]; exact hk r (List.mem_cons_self ..) y hy
  rw [wcg]
  have hlo := hx.lo
  split
  ·split
   ·rename_i h; exact .one (hx.move (by omega) (by omega)) (by show x.1 ≤ x.1 + 1; omega)
   ·exact .nil
  split
  ·split
   ·exact .one hx (Int.le_refl _)
   ·exact .nil
  split
  ·split
   ·exact .one hx (Int.le_refl _)
   ·exact .nil
  split
  ·rename_i h6
   have h := hok.1
   rw [if_neg (by omega), if_neg (by omega), if_pos h6] at h
   simp only [Bool.and_eq_true, decide_eq_true_eq] at h
   exact wotb hs h.1 h.2 hx
  split
  ·rename_i h5
   have h := hok.1
   rw [if_pos h5] at h
   simp only [Bool.and_eq_true, decide_eq_true_eq] at h
   refine RwS.fold (fun y : St => [(y.1, (y.2.put (n.toNat * 2) x.1).put (n.toNat * 2 + 1) y.1)]) _ (fun z hz y hy => ?_) _ .nil
   rw [List.mem_singleton] at hy
   subst hy
   have hz := (kid h.1 x hx).good z hz
   exact ⟨hx.group hz.1 hz.2 h.2.1 h.2.2, hz.2⟩
  split
  ·have alt : ∀ (l : List Rx), (∀ r ∈ l, ∀ x, GdS len x → RwS len x.1 (wcg s bol r x)) → ∀ out, RwS len x.1 out → RwS len x.1 (altF s bol l x out) := by
    intro l
    induction l with
    | nil => intro _ out h; rw [altF]; exact h
    | cons r l ih =>
     intro hl out h
     rw [altF]
     exact ih (fun r hr => hl r (List.mem_cons_of_mem _ hr)) _ (h.add (hl r (List.mem_cons_self ..) x hx).good)
   exact alt kids hk [] .nil
  split
  ·have cat : ∀ (l : List Rx), (∀ r ∈ l, ∀ x, GdS len x → RwS len x.1 (wcg s bol r x)) → ∀ out, RwS len x.1 out → RwS len x.1 (catF s bol l out) := by
    intro l
    induction l with
    | nil => intro _ out h; rw [catF]; exact h
    | cons r l ih =>
     intro hl out h
     rw [catF]
     refine ih (fun r hr => hl r (List.mem_cons_of_mem _ hr)) _ ?_
     refine RwS.fold (fun y => wcg s bol r y) _ (fun z hz y hy => ?_) _ .nil
     have h1 := h.good z hz
     have h2 := (hl r (List.mem_cons_self ..) z h1.1).good y hy
     exact ⟨h2.1, by omega⟩
   exact cat kids hk [x] (.one hx (Int.le_refl _))
  split
  ·rename_i h4
   have h := hok.1
   rw [if_neg (by omega), if_pos h4] at h
   simp only [Bool.and_eq_true, decide_eq_true_eq] at h
   exact wjmb (a0 := x.1) (fun y hy _ => kid h.1 y hy) 100 0 x _ hx (Int.le_refl _) .nil
  ·exact .nil
 ·intro _ r hr; cases hr
 ·intro r rs ih1 ih2 hok
  rw [okRs, Bool.and_eq_true] at hok
  intro r' hr'
  rcases List.mem_cons.1 hr' with rfl | h
  ·exact ih1 hok.1
  ·exact ih2 hok.2 r' h
theorem nodup_le {α : Type} [DecidableEq α] : ∀ (l L : List α), l.Nodup → (∀ x ∈ l, x ∈ L) → l.length ≤ L.length := by
 intro l
 induction l with
 | nil => intro L _ _; exact Nat.zero_le _
 | cons a l ih =>
  intro L hn hs
  rw [List.nodup_cons] at hn
  have ha := hs a (List.mem_cons_self ..)
  have h1 := ih (L.erase a) hn.2 (fun x hx => by
   refine (List.mem_erase_of_ne ?_).2 (hs x (List.mem_cons_of_mem _ hx))
   intro h
   subst h
   exact hn.1 hx)
  rw [List.length_erase_of_mem ha] at h1
  have := List.length_pos_of_mem ha
  rw [List.length_cons]
  omega
theorem wjib {α β : Type} {f : α → List β} {k : Nat} (h : ∀ a, (f a).length = k) (l : List α) : (l.flatMap f).length = l.length * k := by
 induction l with
 | nil => simp
 | cons a l ih => rw [List.flatMap_cons, List.length_append, h, ih, List.length_cons, Nat.add_mul]; omega
def wwm (len : Nat) : List (Int × Int) := (-1, -1) :: (List.range (len + 1)).flatMap fun (a : Nat) => (List.range (len + 1 - a)).map fun (d : Nat) => ((a : Int), ((a + d : Nat) : Int))
def allSt (len : Nat) : List St := (List.range (len + 1)).flatMap fun (a : Nat) => (wwm len).flatMap fun p => (wwm len).flatMap fun q => (wwm len).map fun r => ((a : Int), ⟨[-1, -1, p.1, p.2, q.1, q.2, r.1, r.2], rfl⟩)
theorem wzcb {len : Nat} {a b : Int} (h : wntb len a b) : (a, b) ∈ wwm len := by
 unfold wwm
 rcases h with ⟨rfl, rfl⟩ | ⟨h1, h2, h3⟩
 ·exact List.mem_cons_self ..
 ·refine List.mem_cons_of_mem _ (List.mem_flatMap.2 ⟨a.toNat, List.mem_range.2 (by omega), List.mem_map.2 ⟨(b - a).toNat, List.mem_range.2 (by omega), ?_⟩⟩)
  rw [Prod.mk.injEq]
  exact ⟨by omega, by omega⟩
theorem all_mem {len : Nat} {x : St} (h : GdS len x) : x ∈ allSt len := by
 obtain ⟨a, ⟨l, hl⟩⟩ := x
 match l, hl with
 | [c0, c1, c2, c3, c4, c5, c6, c7], hl =>
  obtain ⟨h1, h2, h3, h4, h5⟩ := h
  have e0 : c0 = -1 := h3
  have e1 : c1 = -1 := h4
  subst e0 e1
  have s1 := wzcb (h5 1 (by omega) (by omega))
  have s2 := wzcb (h5 2 (by omega) (by omega))
  have s3 := wzcb (h5 3 (by omega) (by omega))
  have h1 : 0 ≤ a := h1
  have h2 : a ≤ len := h2
  refine List.mem_flatMap.2 ⟨a.toNat, List.mem_range.2 (by omega), List.mem_flatMap.2 ⟨_, s1, List.mem_flatMap.2 ⟨_, s2, List.mem_map.2 ⟨_, s3, ?_⟩⟩⟩⟩
  rw [Prod.mk.injEq]
  exact ⟨by omega, rfl⟩
theorem wdjc : ∀ len : Nat, len ≤ 12 → (wwm len).length ≤ 92 := by
 intro len h
 match len, h with
 | 0, _ => decide
 | 1, _ => decide
 | 2, _ => decide
 | 3, _ => decide
 | 4, _ => decide
 | 5, _ => decide
 | 6, _ => decide
 | 7, _ => decide
 | 8, _ => decide
 | 9, _ => decide
 | 10, _ => decide
 | 11, _ => decide
 | 12, _ => decide
theorem row_len {len : Nat} {a : Int} {l : List St} (h : RwS len a l) (hl : len ≤ 12) : l.length ≤ 11000000 := by
 have h1 := nodup_le l (allSt len) h.nd (fun x hx => all_mem (h.good x hx).1)
 have h2 : (allSt len).length = (len + 1) * ((wwm len).length * ((wwm len).length * (wwm len).length)) := by
  unfold allSt
  rw [wjib (k := (wwm len).length * ((wwm len).length * (wwm len).length)), List.length_range]
  intro a
  rw [wjib (k := (wwm len).length * (wwm len).length)]
  intro p
  rw [wjib (k := (wwm len).length)]
  intro q
  rw [List.length_map]
 have h3 := wdjc len hl
 have h4 : (len + 1) * ((wwm len).length * ((wwm len).length * (wwm len).length)) ≤ 13 * (92 * (92 * 92)) :=
  Nat.mul_le_mul (by omega) (Nat.mul_le_mul h3 (Nat.mul_le_mul h3 h3))
 omega
end
end Go.Den
namespace Go.Proofs.Ytjihbfdbgamcdaa
set_option linter.unusedVariables false
set_option linter.unusedSimpArgs false
open Go.Den
noncomputable section
theorem wgeb : KeyT Try.prog 81 stC :=
 ⟨by kernel_rfl, ⟨[.int .i64, .int .i64, .int .i64, .int .i64, .int .i64, .int .i64, .int .i64, .int .i64, .int .i64], by kernel_rfl, fun _ => wuqb⟩, fun _ _ => st_eqL, fun _ => wkic⟩
theorem wjb (l : List St) : beqP (setK stC l) (setK stC l) = true := wxic (fun _ => st_bq) l
theorem wsn : lim Try.prog cfg (.call 95 []) (HP []) = some (.val (.pointer (some ⟨0, 0, none⟩)), HP [X [.slice none 0 0, .map (some 1)] 173 0 false, .map []]) := by
 refine wkb hc wiab (Nat.le_of_ble_eq_true rfl) (Nat.le_of_ble_eq_true rfl) ?_
 unfold wcy
 (repeat' (first | (simp -implicitDefEqProofs (maxSteps := 2000000) (disch := first | with_reducible assumption | omega | (simp only [zS, zA, seval, zD] <;> omega) | fail) only [zS, argl, insA, Go.Den.wm, wo, wu, looks, wab, wz, idOf, riA, seval, Go.Den.wh, kK, *, zT]) | (with_reducible (first | apply z1 | apply z2 | apply z3 | apply z4) <;> intro hq <;> (try simp only [zH] at hq) <;> (try (exfalso; omega)))))
abbrev rowB (l : List St) : List ABlk := [X [FO 2 l.length (stsC l), .map (some 1)] 173 0 false, .map (setK stC l), .tok l.length 81 9]
abbrev rowC (l : List St) : List ABlk := [X [FO 1 l.length (stsC l), .map (some 2)] 173 0 false, .tok l.length 81 9, .map (setK stC l)]
abbrev rowN : List ABlk := [X [.slice none 0 0, .map (some 1)] 173 0 false, .map []]
theorem wnl (xs : List St) {i : Nat} (h : i < xs.length) : xs.drop i = xs.getD i St.zero :: xs.drop (i + 1) := by
 rw [List.drop_eq_getElem_cons h, List.getD_eq_getElem?_getD, List.getElem?_eq_getElem h]; rfl
theorem wejc (xs : List St) (hx : xs.length ≤ 16000000) : ∀ (k i : Nat) (l : List St), i + k = xs.length → l ≠ [] → (addF l (xs.drop i)).length ≤ 16000000 →
  lim Try.prog cfg (.loop 96 3 (wki 0) (SE (EJ 35 G0) [(8, .int .i64 i), (7, .int .i64 xs.length), (6, FL xs.length (stsC xs)), (0, .pointer (some ⟨0, 0, none⟩))])) (HP (rowC l)) = some (.code (.exit 0) (SE (EJ 35 G0) []), HP (rowC (addF l (xs.drop i)))) := by
 intro k
 induction k with
 | zero =>
  intro i l hi hl hn
  rw [List.drop_of_length_le (by omega)]
  refine web wxf ?_
  unfold wwg
  (repeat' (first | (simp -implicitDefEqProofs (maxSteps := 2000000) (disch := first | with_reducible assumption | omega | (simp only [zS, zA, seval, wy, zD] <;> omega) | fail) only [zS, argl, insA, Go.Den.wm, wo, wu, looks, wab, wz, idOf, riA, seval, Go.Den.wh, kK, wzd, wy, *, zT]) | (with_reducible (first | apply z1 | apply z2 | apply z3 | apply z4) <;> intro hq <;> (try simp only [zH] at hq) <;> (try (exfalso; omega))) | (with_reducible apply z5; (case hl => (repeat (first | exact .nil | with_reducible apply z6 | with_reducible apply z7))); (case h => kernel_rfl))))
  all_goals rfl
 | succ k ih =>
  intro i l hi hl hn
  rw [wnl xs (by omega), addF] at hn ⊢
  refine web wxf ?_
  unfold wwg
  have hn2 := Nat.le_trans (wmtb _ _) hn
  by_cases hm : xs.getD i St.zero ∈ l
  ·rw [if_pos hm] at hn hn2 ⊢
   (repeat' (first | (simp -implicitDefEqProofs (maxSteps := 2000000) (disch := first | with_reducible assumption | omega | (simp only [zS, zA, seval, wy, zD] <;> omega) | fail) only [zS, argl, insA, Go.Den.wm, wo, wu, looks, wab, wz, idOf, riA, seval, Go.Den.wh, kK, wzd, wy, wnf wgeb, woi wgeb, *, zT]) | (with_reducible (first | apply z1 | apply z2 | apply z3 | apply z4) <;> intro hq <;> (try simp only [zH] at hq) <;> (try (exfalso; omega))) | (with_reducible apply z5; (case hl => (repeat (first | exact .nil | with_reducible apply z6 | with_reducible apply z7))); (case h => kernel_rfl))))
   exact ih (i + 1) l (by omega) hl hn
  ·rw [if_neg hm] at hn hn2 ⊢
   have hn3 : l.length + 1 ≤ 16000000 := by rw [List.length_append] at hn2; exact hn2
   (repeat' (first | (simp -implicitDefEqProofs (maxSteps := 2000000) (disch := first | with_reducible assumption | omega | (simp only [zS, zA, seval, wy, zD] <;> omega) | fail) only [zS, argl, insA, Go.Den.wm, wo, wu, looks, wab, wz, idOf, riA, seval, Go.Den.wh, kK, wzd, wy, wnf wgeb, woi wgeb, *, zT]) | (with_reducible (first | apply z1 | apply z2 | apply z3 | apply z4) <;> intro hq <;> (try simp only [zH] at hq) <;> (try (exfalso; omega))) | (with_reducible apply z5; (case hl => (repeat (first | exact .nil | with_reducible apply z6 | with_reducible apply z7))); (case h => kernel_rfl))))
   have h := ih (i + 1) (l ++ [xs.getD i St.zero]) (by omega) (by simp) hn
   unfold rowC at h
   rw [show (l ++ [xs.getD i St.zero]).length = l.length + 1 by simp, whtb] at h
   exact h
theorem wfjc (xs : List St) (hx : xs.length ≤ 16000000) : ∀ (k i : Nat) (l : List St), i + k = xs.length → l ≠ [] → (addF l (xs.drop i)).length ≤ 16000000 →
  lim Try.prog cfg (.loop 96 2 (wki 0) (SE (EJ 35 G0) [(8, .int .i64 i), (7, .int .i64 xs.length), (6, FL xs.length (stsC xs)), (0, .pointer (some ⟨0, 0, none⟩))])) (HP (rowB l)) = some (.code (.exit 0) (SE (EJ 35 G0) []), HP (rowB (addF l (xs.drop i)))) := by
 intro k
 induction k with
 | zero =>
  intro i l hi hl hn
  rw [List.drop_of_length_le (by omega)]
  refine web wxf ?_
  unfold wwg
  (repeat' (first | (simp -implicitDefEqProofs (maxSteps := 2000000) (disch := first | with_reducible assumption | omega | (simp only [zS, zA, seval, wy, zD] <;> omega) | fail) only [zS, argl, insA, Go.Den.wm, wo, wu, looks, wab, wz, idOf, riA, seval, Go.Den.wh, kK, wzd, wy, *, zT]) | (with_reducible (first | apply z1 | apply z2 | apply z3 | apply z4) <;> intro hq <;> (try simp only [zH] at hq) <;> (try (exfalso; omega))) | (with_reducible apply z5; (case hl => (repeat (first | exact .nil | with_reducible apply z6 | with_reducible apply z7))); (case h => kernel_rfl))))
  all_goals rfl
 | succ k ih =>
  intro i l hi hl hn
  rw [wnl xs (by omega), addF] at hn ⊢
  refine web wxf ?_
  unfold wwg
  have hn2 := Nat.le_trans (wmtb _ _) hn
  by_cases hm : xs.getD i St.zero ∈ l
  ·rw [if_pos hm] at hn hn2 ⊢
   (repeat' (first | (simp -implicitDefEqProofs (maxSteps := 2000000) (disch := first | with_reducible assumption | omega | (simp only [zS, zA, seval, wy, zD] <;> omega) | fail) only [zS, argl, insA, Go.Den.wm, wo, wu, looks, wab, wz, idOf, riA, seval, Go.Den.wh, kK, wzd, wy, wnf wgeb, woi wgeb, *, zT]) | (with_reducible (first | apply z1 | apply z2 | apply z3 | apply z4) <;> intro hq <;> (try simp only [zH] at hq) <;> (try (exfalso; omega))) | (with_reducible apply z5; (case hl => (repeat (first | exact .nil | with_reducible apply z6 | with_reducible apply z7))); (case h => kernel_rfl))))
   exact ih (i + 1) l (by omega) hl hn
  ·rw [if_neg hm] at hn hn2 ⊢
   have hn3 : l.length + 1 ≤ 16000000 := by rw [List.length_append] at hn2; exact hn2
   (repeat' (first | (simp -implicitDefEqProofs (maxSteps := 2000000) (disch := first | with_reducible assumption | omega | (simp only [zS, zA, seval, wy, zD] <;> omega) | fail) only [zS, argl, insA, Go.Den.wm, wo, wu, looks, wab, wz, idOf, riA, seval, Go.Den.wh, kK, wzd, wy, wnf wgeb, woi wgeb, *, zT]) | (with_reducible (first | apply z1 | apply z2 | apply z3 | apply z4) <;> intro hq <;> (try simp only [zH] at hq) <;> (try (exfalso; omega))) | (with_reducible apply z5; (case hl => (repeat (first | exact .nil | with_reducible apply z6 | with_reducible apply z7))); (case h => kernel_rfl))))
   have h := ih (i + 1) (l ++ [xs.getD i St.zero]) (by omega) (by simp) hn
   unfold rowB at h
   rw [show (l ++ [xs.getD i St.zero]).length = l.length + 1 by simp, whtb] at h
   exact h
theorem wgjc (xs : List St) (hx : xs.length ≤ 16000000) (h0 : xs ≠ []) (hn : (addF [] xs).length ≤ 16000000) :
  lim Try.prog cfg (.loop 96 2 (wki 0) (SE (EJ 35 G0) [(8, .int .i64 0), (7, .int .i64 xs.length), (6, FL xs.length (stsC xs)), (0, .pointer (some ⟨0, 0, none⟩))])) (HP rowN) = some (.code (.exit 0) (SE (EJ 35 G0) []), HP (rowB (addF [] xs))) := by
 have hl : 0 < xs.length := List.length_pos_iff.2 h0
 have e : addF [] xs = addF [xs.getD 0 St.zero] (xs.drop 1) := by
  have h1 := wnl xs hl
  rw [List.drop_zero] at h1
  conv => lhs; rw [h1]
  rw [wdp, if_neg (by simp)]
  rfl
 rw [e] at hn ⊢
 refine web wxf ?_
 unfold wwg
 have hg := wtu (l := xs) (i := 0) hl
 rw [Nat.zero_mul] at hg
 have hm : xs.getD 0 St.zero ∉ ([] : List St) := by simp
 (repeat' (first | (simp -implicitDefEqProofs (maxSteps := 2000000) (disch := first | with_reducible assumption | omega | (simp only [zS, zA, seval, wy, zD] <;> omega) | fail) only [zS, argl, insA, Go.Den.wm, wo, wu, looks, wab, wz, idOf, riA, seval, Go.Den.wh, kK, wzd, wy, wgib (enc := stC), wnf wgeb, woi wgeb, *, zT]) | (with_reducible (first | apply z1 | apply z2 | apply z3 | apply z4) <;> intro hq <;> (try simp only [zH] at hq) <;> (try (exfalso; omega))) | (with_reducible apply z5; (case hl => (repeat (first | exact .nil | with_reducible apply z6 | with_reducible apply z7))); (case h => kernel_rfl))))
 have h := wfjc xs hx (xs.length - 1) 1 [xs.getD 0 St.zero] (by omega) (by simp) hn
 unfold rowB at h
 rw [show [xs.getD 0 St.zero].length = 1 from rfl, ← sts_one] at h
 exact h
theorem wxu (l xs : List St) (hl : l ≠ []) (hx : xs.length ≤ 16000000) (hn : (addF l xs).length ≤ 16000000) : lim Try.prog cfg (.call 96 [.pointer (some ⟨0, 0, none⟩), FL xs.length (stsC xs)]) (HP (rowC l)) = some (.val (.tuple ⟨[]⟩), HP (rowC (addF l xs))) := by
 refine wkb hc wbn (Nat.le_of_ble_eq_true rfl) (Nat.le_of_ble_eq_true rfl) ?_
 unfold whn
 have h := wejc xs hx xs.length 0 l (by omega) hl hn
 rw [List.drop_zero, show ((0 : Nat) : Int) = 0 from rfl] at h
 (repeat' (first | (simp -implicitDefEqProofs (maxSteps := 2000000) (disch := first | with_reducible assumption | omega | (simp only [zS, zA, seval, wy, zD] <;> omega) | fail) only [zS, argl, insA, Go.Den.wm, wo, wu, looks, wab, wz, idOf, riA, seval, Go.Den.wh, kK, wzd, wy, *, zT]) | (with_reducible (first | apply z1 | apply z2 | apply z3 | apply z4) <;> intro hq <;> (try simp only [zH] at hq) <;> (try (exfalso; omega)))))
theorem wgy (xs : List St) (h0 : xs ≠ []) (hx : xs.length ≤ 16000000) (hn : (addF [] xs).length ≤ 16000000) : lim Try.prog cfg (.call 96 [.pointer (some ⟨0, 0, none⟩), FL xs.length (stsC xs)]) (HP rowN) = some (.val (.tuple ⟨[]⟩), HP (rowB (addF [] xs))) := by
 refine wkb hc wbn (Nat.le_of_ble_eq_true rfl) (Nat.le_of_ble_eq_true rfl) ?_
 unfold whn
 have h := wgjc xs hx h0 hn
 (repeat' (first | (simp -implicitDefEqProofs (maxSteps := 2000000) (disch := first | with_reducible assumption | omega | (simp only [zS, zA, seval, wy, zD] <;> omega) | fail) only [zS, argl, insA, Go.Den.wm, wo, wu, looks, wab, wz, idOf, riA, seval, Go.Den.wh, kK, wzd, wy, *, zT]) | (with_reducible (first | apply z1 | apply z2 | apply z3 | apply z4) <;> intro hq <;> (try simp only [zH] at hq) <;> (try (exfalso; omega)))))
theorem wptb : lim Try.prog cfg (.call 96 [.pointer (some ⟨0, 0, none⟩), FL 0 []]) (HP rowN) = some (.val (.tuple ⟨[]⟩), HP rowN) := by
 refine wkb hc wbn (Nat.le_of_ble_eq_true rfl) (Nat.le_of_ble_eq_true rfl) ?_
 unfold whn
 have h : lim Try.prog cfg (.loop 96 2 (wki 0) (SE (EJ 35 G0) [(8, .int .i64 0), (7, .int .i64 0), (6, FL 0 []), (0, .pointer (some ⟨0, 0, none⟩))])) (HP rowN) = some (.code (.exit 0) (SE (EJ 35 G0) []), HP rowN) := by
  refine web wxf ?_
  unfold wwg
  (repeat' (first | (simp -implicitDefEqProofs (maxSteps := 2000000) (disch := first | with_reducible assumption | omega | (simp only [zS, zA, seval, zD] <;> omega) | fail) only [zS, argl, insA, Go.Den.wm, wo, wu, looks, wab, wz, idOf, riA, seval, Go.Den.wh, kK, wzd, *, zT]) | (with_reducible (first | apply z1 | apply z2 | apply z3 | apply z4) <;> intro hq <;> (try simp only [zH] at hq) <;> (try (exfalso; omega))) | (with_reducible apply z5; (case hl => (repeat (first | exact .nil | with_reducible apply z6 | with_reducible apply z7))); (case h => kernel_rfl))))
 (repeat' (first | (simp -implicitDefEqProofs (maxSteps := 2000000) (disch := first | with_reducible assumption | omega | (simp only [zS, zA, seval, zD] <;> omega) | fail) only [zS, argl, insA, Go.Den.wm, wo, wu, looks, wab, wz, idOf, riA, seval, Go.Den.wh, kK, wzd, Int.natCast_zero, *, zT]) | (with_reducible (first | apply z1 | apply z2 | apply z3 | apply z4) <;> intro hq <;> (try simp only [zH] at hq) <;> (try (exfalso; omega))) | (with_reducible apply z5; (case hl => (repeat (first | exact .nil | with_reducible apply z6 | with_reducible apply z7))); (case h => kernel_rfl))))
end
end Go.Proofs.Ytjihbfdbgamcdaa
namespace Go.Proofs.Ytjihbfdbgamcdaa
set_option linter.unusedVariables false
set_option linter.unusedSimpArgs false
open Go.Den
noncomputable section
theorem ev_back (s : List UInt8) (hs : s.length ≤ 1000) (bol : Bool) (n : Int) (n1 : 1 ≤ n) (n3 : n ≤ 3) (x : St) (hx : GdS s.length x) :
  lim Try.prog cfg (.call 94 [.agg ⟨[str s, .bool bol]⟩, .int .i64 n, .agg ⟨stC x⟩]) (HP []) = some (.val (FL (wzqb s n x).length (stsC (wzqb s n x))), HP []) := by
 refine wkb hc wjw (Nat.le_of_ble_eq_true rfl) (Nat.le_of_ble_eq_true rfl) ?_
 unfold wes
 have h := hx.sp n.toNat (by omega) (by omega)
 have hlo := hx.lo
 have hhi := hx.hi
 unfold wzqb
 obtain ⟨f, hf⟩ : ∃ f, x.2.at (n.toNat * 2) = f := ⟨_, rfl⟩
 obtain ⟨t, ht⟩ : ∃ t, x.2.at (n.toNat * 2 + 1) = t := ⟨_, rfl⟩
 rw [hf, ht] at h ⊢
 rcases h with ⟨rfl, rfl⟩ | ⟨h1, h2, h3⟩
 ·(repeat' (first | (simp -implicitDefEqProofs (maxSteps := 2000000) (disch := first | with_reducible assumption | omega | (simp only [zS, zA, seval, zD] <;> omega) | fail) only [zS, argl, insA, Go.Den.wm, wo, wu, looks, wab, wz, idOf, riA, seval, Go.Den.wh, kK, *, zT]) | (with_reducible (first | apply z1 | apply z2 | apply z3 | apply z4) <;> intro hq <;> (try simp only [zH] at hq) <;> (try (exfalso; omega))) | (with_reducible apply z5; (case hl => (repeat (first | exact .nil | with_reducible apply z6 | with_reducible apply z7))); (case h => kernel_rfl))))
 ·have h0 : ¬ f < 0 := by omega
  (repeat' (first | (simp -implicitDefEqProofs (maxSteps := 2000000) (disch := first | with_reducible assumption | omega | (simp only [zS, zA, seval, zD] <;> omega) | fail) only [zS, argl, insA, Go.Den.wm, wo, wu, looks, wab, wz, idOf, riA, seval, Go.Den.wh, kK, *, zT]) | (with_reducible (first | apply z1 | apply z2 | apply z3 | apply z4) <;> intro hq <;> (try simp only [zH] at hq) <;> (try (exfalso; omega))) | (with_reducible apply z5; (case hl => (repeat (first | exact .nil | with_reducible apply z6 | with_reducible apply z7))); (case h => kernel_rfl))))
  all_goals simp_all [woj, wfib]
def wiy (w : St → List St) (l : List St) (out : List St) : List St := l.foldl (fun out y => addF out (w y)) out
theorem whz (w : St → List St) (y : St) (l out : List St) : wiy w (y :: l) out = wiy w l (addF out (w y)) := rfl
abbrev frC (s : List UInt8) (bol : Bool) (r : Rx) (l : List St) : List ABlk := [X [str s, .bool bol] 129 0 true, X (rxC r) 46 0 true, X [FO 3 l.length (stsC l), .map (some 4)] 173 0 false, .tok l.length 81 9, .map (setK stC l)]
abbrev frN (s : List UInt8) (bol : Bool) (r : Rx) : List ABlk := [X [str s, .bool bol] 129 0 true, X (rxC r) 46 0 true, X [.slice none 0 0, .map (some 3)] 173 0 false, .map []]
theorem wqtb (w : St → List St) : ∀ (l out : List St), out ≠ [] → wiy w l out ≠ [] := by
 intro l
 induction l with
 | nil => intro out h; exact h
 | cons y l ih => intro out h; exact ih _ (wyl (.inl h))
def rowO (l : List St) : List ABlk := if l = [] then rowN else rowC l
theorem wdzb (s : List UInt8) (hs : s.length ≤ 12) (bol : Bool) (r : Rx) (w : St → List St) (a : Int) (l : List St) (hll : l.length ≤ 16000000) (hl : ∀ y ∈ l, GdS s.length y ∧ a ≤ y.1) (hw : ∀ y, GdS s.length y → RwS s.length y.1 (w y) ∧ lim Try.prog cfg (.call 67 [.agg ⟨[str s, .bool bol]⟩, .agg ⟨rxC r⟩, .agg ⟨stC y⟩]) (HP []) = some (.val (FL (w y).length (stsC (w y))), HP [])) :
  ∀ (k i : Nat) (out : List St), i + k = l.length → out ≠ [] → RwS s.length a out →
  lim Try.prog cfg (.loop 97 0 (wmj 0) (SE (EJ 28 G0) [(13, .int .i64 i), (12, .int .i64 l.length), (11, FL l.length (stsC l)), (7, .pointer (some ⟨2, 0, none⟩)), (4, .pointer (some ⟨1, 0, none⟩)), (3, .pointer (some ⟨0, 0, none⟩))])) (HP (frC s bol r out)) = some (.code (.exit 0) (SE (EJ 28 G0) [(7, .pointer (some ⟨0, 0, none⟩))]), HP (rowC (wiy w (l.drop i) out))) := by
 intro k
 induction k with
 | zero =>
  intro i out hi ho hr
  rw [List.drop_of_length_le (by omega)]
  refine web wgi ?_
  unfold wfi
  (repeat' (first | (simp -implicitDefEqProofs (maxSteps := 2000000) (disch := first | with_reducible assumption | omega | (simp only [zS, zA, seval, wy, zD] <;> omega) | fail) only [zS, argl, insA, Go.Den.wm, wo, wu, looks, wab, wz, idOf, riA, seval, Go.Den.wh, kK, wpf, wy, *, zT]) | (with_reducible (first | apply z1 | apply z2 | apply z3 | apply z4) <;> intro hq <;> (try simp only [zH] at hq) <;> (try (exfalso; omega)))))
  all_goals rfl
 | succ k ih =>
  intro i out hi ho hr
  rw [wnl l (by omega), whz]
  have hy := hl (l.getD i St.zero) (by rw [List.getD_eq_getElem?_getD, List.getElem?_eq_getElem (by omega)]; exact List.getElem_mem _)
  have ⟨h1, h2⟩ := hw _ hy.1
  have h3 : RwS s.length a (addF out (w (l.getD i St.zero))) := hr.add (fun z hz => ⟨(h1.good z hz).1, by have := (h1.good z hz).2; omega⟩)
  have h4 := row_len h1 hs
  have h5 := row_len h3 hs
  have h6 := wxu out (w (l.getD i St.zero)) ho (by omega) (by omega)
  refine web wgi ?_
  unfold wfi
  (repeat' (first | (simp -implicitDefEqProofs (maxSteps := 2000000) (disch := first | with_reducible assumption | omega | (simp only [zS, zA, seval, wy, zD] <;> omega) | fail) only [zS, argl, insA, Go.Den.wm, wo, wu, looks, wab, wz, idOf, riA, seval, Go.Den.wh, kK, wpf, wy, wjb, *, zT]) | (with_reducible (first | apply z1 | apply z2 | apply z3 | apply z4) <;> intro hq <;> (try simp only [zH] at hq) <;> (try (exfalso; omega)))))
  exact ih (i + 1) _ (by omega) (wyl (.inl ho)) h3
theorem wezb (s : List UInt8) (hs : s.length ≤ 12) (bol : Bool) (r : Rx) (w : St → List St) (a : Int) (l : List St) (hll : l.length ≤ 16000000) (hl : ∀ y ∈ l, GdS s.length y ∧ a ≤ y.1) (hw : ∀ y, GdS s.length y → RwS s.length y.1 (w y) ∧ lim Try.prog cfg (.call 67 [.agg ⟨[str s, .bool bol]⟩, .agg ⟨rxC r⟩, .agg ⟨stC y⟩]) (HP []) = some (.val (FL (w y).length (stsC (w y))), HP [])) :
  ∀ (k i : Nat), i + k = l.length →
  lim Try.prog cfg (.loop 97 0 (wmj 0) (SE (EJ 28 G0) [(13, .int .i64 i), (12, .int .i64 l.length), (11, FL l.length (stsC l)), (7, .pointer (some ⟨2, 0, none⟩)), (4, .pointer (some ⟨1, 0, none⟩)), (3, .pointer (some ⟨0, 0, none⟩))])) (HP (frN s bol r)) = some (.code (.exit 0) (SE (EJ 28 G0) [(7, .pointer (some ⟨0, 0, none⟩))]), HP (rowO (wiy w (l.drop i) []))) := by
 intro k
 induction k with
 | zero =>
  intro i hi
  rw [List.drop_of_length_le (by omega)]
  refine web wgi ?_
  unfold wfi
  (repeat' (first | (simp -implicitDefEqProofs (maxSteps := 2000000) (disch := first | with_reducible assumption | omega | (simp only [zS, zA, seval, wy, zD] <;> omega) | fail) only [zS, argl, insA, Go.Den.wm, wo, wu, looks, wab, wz, idOf, riA, seval, Go.Den.wh, kK, wpf, wy, *, zT]) | (with_reducible (first | apply z1 | apply z2 | apply z3 | apply z4) <;> intro hq <;> (try simp only [zH] at hq) <;> (try (exfalso; omega)))))
  all_goals rfl
 | succ k ih =>
  intro i hi
  have hd := wnl l (show i < l.length by omega)
  rw [hd, whz]
  have hy := hl (l.getD i St.zero) (by rw [List.getD_eq_getElem?_getD, List.getElem?_eq_getElem (by omega)]; exact List.getElem_mem _)
  have ⟨h1, h2⟩ := hw _ hy.1
  have h3 : RwS s.length a (addF [] (w (l.getD i St.zero))) := RwS.nil.add (fun z hz => ⟨(h1.good z hz).1, by have := (h1.good z hz).2; omega⟩)
  have h4 := row_len h1 hs
  have h5 := row_len h3 hs
  have h7 := ih (i + 1) (by omega)
  refine web wgi ?_
  unfold wfi
  by_cases hz : w (l.getD i St.zero) = []
  ·rw [hz] at h2 ⊢
   clear h1 h3 h4 h5
   rw [List.length_nil, wfib] at h2
   (repeat' (first | (simp -implicitDefEqProofs (maxSteps := 2000000) (disch := first | with_reducible assumption | omega | (simp only [zS, zA, seval, wy, zD] <;> omega) | fail) only [zS, argl, insA, Go.Den.wm, wo, wu, looks, wab, wz, idOf, riA, seval, Go.Den.wh, kK, wpf, wy, wjb, wptb, *, zT]) | (with_reducible (first | apply z1 | apply z2 | apply z3 | apply z4) <;> intro hq <;> (try simp only [zH] at hq) <;> (try (exfalso; omega)))))
   exact h7
  ·have h6 := wgy (w (l.getD i St.zero)) hz (by omega) (by omega)
   have h8 := wdzb s hs bol r w a l hll hl hw k (i + 1) (addF [] (w (l.getD i St.zero))) (by omega) (wyl (.inr hz)) h3
   rw [rowO, if_neg (wqtb w _ _ (wyl (.inr hz)))]
   clear h7
   (repeat' (first | (simp -implicitDefEqProofs (maxSteps := 2000000) (disch := first | with_reducible assumption | omega | (simp only [zS, zA, seval, wy, zD] <;> omega) | fail) only [zS, argl, insA, Go.Den.wm, wo, wu, looks, wab, wz, idOf, riA, seval, Go.Den.wh, kK, wpf, wy, wjb, *, zT]) | (with_reducible (first | apply z1 | apply z2 | apply z3 | apply z4) <;> intro hq <;> (try simp only [zH] at hq) <;> (try (exfalso; omega)))))
   exact h8
theorem whjc (s : List UInt8) (hs : s.length ≤ 12) (bol : Bool) (r : Rx) (w : St → List St) (a : Int) (l : List St) (hll : l.length ≤ 16000000) (hl : ∀ y ∈ l, GdS s.length y ∧ a ≤ y.1) (hw : ∀ y, GdS s.length y → RwS s.length y.1 (w y) ∧ lim Try.prog cfg (.call 67 [.agg ⟨[str s, .bool bol]⟩, .agg ⟨rxC r⟩, .agg ⟨stC y⟩]) (HP []) = some (.val (FL (w y).length (stsC (w y))), HP [])) :
  lim Try.prog cfg (.call 97 [.agg ⟨[str s, .bool bol]⟩, .agg ⟨rxC r⟩, FL l.length (stsC l)]) (HP []) = some (.val (FL (wimb w l).length (stsC (wimb w l))), HP []) := by
 refine wkb hc wkw (Nat.le_of_ble_eq_true rfl) (Nat.le_of_ble_eq_true rfl) ?_
 unfold wfs
 have h := wezb s hs bol r w a l hll hl hw l.length 0 (by omega)
 rw [List.drop_zero, show ((0 : Nat) : Int) = 0 from rfl] at h
 show _ = some (Out.val (FL (wiy w l []).length (stsC (wiy w l []))), HP [])
 clear hw
 by_cases hz : wiy w l [] = []
 ·rw [rowO, if_pos hz] at h
  rw [hz]
  (repeat' (first | (simp -implicitDefEqProofs (maxSteps := 2000000) (disch := first | with_reducible assumption | omega | (simp only [zS, zA, seval, wy, zD] <;> omega) | fail) only [zS, argl, insA, Go.Den.wm, wo, wu, looks, wab, wz, idOf, riA, seval, Go.Den.wh, kK, wpf, wy, wsn, *, zT]) | (with_reducible (first | apply z1 | apply z2 | apply z3 | apply z4) <;> intro hq <;> (try simp only [zH] at hq) <;> (try (exfalso; omega)))))
 ·rw [rowO, if_neg hz] at h
  (repeat' (first | (simp -implicitDefEqProofs (maxSteps := 2000000) (disch := first | with_reducible assumption | omega | (simp only [zS, zA, seval, wy, zD] <;> omega) | fail) only [zS, argl, insA, Go.Den.wm, wo, wu, looks, wab, wz, idOf, riA, seval, Go.Den.wh, kK, wpf, wy, wsn, *, zT]) | (with_reducible (first | apply z1 | apply z2 | apply z3 | apply z4) <;> intro hq <;> (try simp only [zH] at hq) <;> (try (exfalso; omega)))))
end
end Go.Proofs.Ytjihbfdbgamcdaa
namespace Go.Proofs.Ytjihbfdbgamcdaa
set_option linter.unusedVariables false
set_option linter.unusedSimpArgs false
open Go.Den
noncomputable section
abbrev Turn := Int × St
def trC (p : Turn) : List Value := .int .i64 p.1 :: stC p.2
theorem wkmb {p : Turn} : (trC p).length = 10 := by rw [trC, List.length_cons, wdmb]
theorem tr_atom {p : Turn} : wai (trC p) = true := by rw [trC, wfz, wtqb]; rfl
theorem wsi (p : Turn) : FzL (trC p) := fzl tr_atom
theorem wjj {p : Turn} : wvp (trC p) = true := by rw [trC, wsu, wkic]; rfl
theorem tr_bq {p : Turn} : beqL (trC p) (trC p) = true := by rw [trC, wrl, wov, st_bq]; rfl
theorem tr_fits {p : Turn} : wri [.int .i64, .int .i64, .int .i64, .int .i64, .int .i64, .int .i64, .int .i64, .int .i64, .int .i64, .int .i64] (trC p) = true := by
 rw [trC]; show (true && wri _ (stC p.2)) = true; rw [wuqb]; rfl
theorem tr_eqL {p q : Turn} : eqL (trC p) (trC q) = decide (p = q) := by
 obtain ⟨a, m⟩ := p
 obtain ⟨b, n⟩ := q
 show ((a == b) && eqL (stC m) (stC n)) = _
 rw [st_eqL]
 by_cases h1 : a = b <;> by_cases h2 : m = n <;> simp [h1, h2]
theorem wijc {n : Int} {x : St} : (Value.int .i64 n :: stC x) = trC (n, x) := rfl
theorem wrtb {p : Turn} : slotsOf (trC p) 0 10 = trC p := wjt wkmb
theorem wok : KeyT Try.prog 194 trC :=
 ⟨by kernel_rfl, ⟨[.int .i64, .int .i64, .int .i64, .int .i64, .int .i64, .int .i64, .int .i64, .int .i64, .int .i64, .int .i64], by kernel_rfl, fun _ => tr_fits⟩, fun _ _ => tr_eqL, fun _ => wjj⟩
theorem wsb (l : List Turn) : beqP (setK trC l) (setK trC l) = true := wxic (fun _ => tr_bq) l
section
variable (s : List UInt8) (bol : Bool) (mn mx nn : Int) (set : BitVec 256) (kids : List Rx)
abbrev repB : ABlk := X [str s, .bool bol, .int .i64 4, .int .i64 mn, .int .i64 mx, .int .i64 nn, wdV set 0, wdV set 1, wdV set 2, wdV set 3, FL kids.length (rxsC kids), .pointer (some ⟨1, 0, none⟩), .map (some 2)] 178 0 false
abbrev reN (met : List Turn) : List ABlk := [repB s bol mn mx nn set kids, X [.slice none 0 0, .map (some 3)] 173 0 false, .map (setK trC met), .map []]
abbrev reC (met : List Turn) (out : List St) : List ABlk := [repB s bol mn mx nn set kids, X [FO 3 out.length (stsC out), .map (some 4)] 173 0 false, .map (setK trC met), .tok out.length 81 9, .map (setK stC out)]
abbrev reE (met : List Turn) (out : List St) : List ABlk := [repB s bol mn mx nn set kids, X [FO 4 out.length (stsC out), .map (some 3)] 173 0 false, .map (setK trC met), .map (setK stC out), .tok out.length 81 9]
theorem ev_key_N (met : List Turn) (n : Int) (x : St) : lim Try.prog cfg (.call 114 [.pointer (some ⟨0, 0, none⟩), .int .i64 n, .agg ⟨stC x⟩]) (HP (reN s bol mn mx nn set kids met)) = some (.val (.agg ⟨trC (keyF mn mx n x)⟩), HP (reN s bol mn mx nn set kids met)) := by
 refine wkb hc wtm (Nat.le_of_ble_eq_true rfl) (Nat.le_of_ble_eq_true rfl) ?_
 unfold wvl keyF
 (repeat' (first | (simp -implicitDefEqProofs (maxSteps := 2000000) (disch := first | with_reducible assumption | omega | (simp only [zS, zA, seval, wy, wkmb, wsi, zD] <;> omega) | fail) only [zS, argl, insA, Go.Den.wm, wo, wu, looks, wab, wz, idOf, riA, seval, Go.Den.wh, kK, wy, wijc, wrtb, wkmb, wsi, *, zT]) | (with_reducible (first | apply z1 | apply z2 | apply z3 | apply z4) <;> intro hq <;> (try simp only [zH] at hq) <;> (try (exfalso; omega)))))
theorem ev_key_C (met : List Turn) (out : List St) (n : Int) (x : St) : lim Try.prog cfg (.call 114 [.pointer (some ⟨0, 0, none⟩), .int .i64 n, .agg ⟨stC x⟩]) (HP (reC s bol mn mx nn set kids met out)) = some (.val (.agg ⟨trC (keyF mn mx n x)⟩), HP (reC s bol mn mx nn set kids met out)) := by
 refine wkb hc wtm (Nat.le_of_ble_eq_true rfl) (Nat.le_of_ble_eq_true rfl) ?_
 unfold wvl keyF
 (repeat' (first | (simp -implicitDefEqProofs (maxSteps := 2000000) (disch := first | with_reducible assumption | omega | (simp only [zS, zA, seval, wy, wkmb, wsi, zD] <;> omega) | fail) only [zS, argl, insA, Go.Den.wm, wo, wu, looks, wab, wz, idOf, riA, seval, Go.Den.wh, kK, wy, wijc, wrtb, wkmb, wsi, *, zT]) | (with_reducible (first | apply z1 | apply z2 | apply z3 | apply z4) <;> intro hq <;> (try simp only [zH] at hq) <;> (try (exfalso; omega)))))
def muF (mn mx : Int) (len : Nat) (n : Int) (x : St) : Nat := if mx < 0 then (mn - n).toNat + ((len : Int) - x.1).toNat else (mx - n).toNat
def KidOk (s : List UInt8) (bol : Bool) (kids : List Rx) (w : St → List St) : Prop :=
 ∃ kid, slotsOf (rxsC kids) 0 9 = rxC kid ∧ 0 < kids.length ∧ ∀ y, GdS s.length y → RwS s.length y.1 (w y) ∧ lim Try.prog cfg (.call 67 [.agg ⟨[str s, .bool bol]⟩, .agg ⟨rxC kid⟩, .agg ⟨stC y⟩]) (HP []) = some (.val (FL (w y).length (stsC (w y))), HP [])
def OnC (w : St → List St) (a : Int) (k : Nat) : Prop := ∀ (n : Int) (x : St) (met : List Turn) (out : List St), 0 ≤ n → n + k ≤ 1000 → GdS s.length x → a ≤ x.1 → muF mn mx s.length n x < k → out ≠ [] → RwS s.length a out →
 lim Try.prog cfg (.call 98 [.pointer (some ⟨0, 0, none⟩), .int .i64 n, .agg ⟨stC x⟩]) (HP (reC s bol mn mx nn set kids met out)) = some (.val (.tuple ⟨[]⟩), HP (reC s bol mn mx nn set kids (onF w mn mx k n x (met, out)).1 (onF w mn mx k n x (met, out)).2))
theorem on_ne {w : St → List St} {mn mx : Int} : ∀ (k : Nat) (n : Int) (x : St) (a : List Turn × List St), a.2 ≠ [] → (onF w mn mx k n x a).2 ≠ [] := by
 intro k
 induction k with
 | zero => intro n x a h; exact h
 | succ k ih =>
  intro n x a h
  have hf : ∀ (l : List St) (b : List Turn × List St), b.2 ≠ [] → (l.foldl (fun b y => if y.1 ≠ x.1 ∨ n < mn then onF w mn mx k (n + 1) y b else b) b).2 ≠ [] := by
   intro l
   induction l with
   | nil => intro b hb; exact hb
   | cons y l ih2 =>
    intro b hb
    refine ih2 _ ?_
    show (if y.1 ≠ x.1 ∨ n < mn then onF w mn mx k (n + 1) y b else b).2 ≠ []
    split
    ·exact ih _ _ _ hb
    ·exact hb
  unfold onF
  split
  ·exact h
  ·simp only
   have hb : (if mx < 0 ∨ n < mx then (w x).foldl (fun b y => if y.1 ≠ x.1 ∨ n < mn then onF w mn mx k (n + 1) y b else b) (a.1 ++ [keyF mn mx n x], a.2) else (a.1 ++ [keyF mn mx n x], a.2)).2 ≠ [] := by
    split
    ·exact hf _ _ h
    ·exact h
   split
   ·exact wyl (.inl hb)
   ·exact hb
def wjab (w : St → List St) (mn mx : Int) (k : Nat) (n : Int) (x : St) (l : List St) (b : List Turn × List St) : List Turn × List St := l.foldl (fun b y => if y.1 ≠ x.1 ∨ n < mn then onF w mn mx k (n + 1) y b else b) b
theorem wrq {w : St → List St} {mn mx : Int} {k : Nat} {n : Int} {x y : St} {l : List St} {b : List Turn × List St} : wjab w mn mx k n x (y :: l) b = wjab w mn mx k n x l (if y.1 ≠ x.1 ∨ n < mn then onF w mn mx k (n + 1) y b else b) := rfl
set_option maxHeartbeats 4000000 in
theorem on_loopC (hs : s.length ≤ 12) (hmn : 0 ≤ mn ∧ mn ≤ 20) (hmx : mx ≤ 20) (w : St → List St) (a : Int) (hk : ∀ y, GdS s.length y → RwS s.length y.1 (w y)) (k : Nat) (IH : OnC s bol mn mx nn set kids w a k) (n : Int) (hn : 0 ≤ n ∧ n + k < 1000) (hnm : mx < 0 ∨ n < mx) (x : St) (hx : GdS s.length x) (hxa : a ≤ x.1) (hmu : muF mn mx s.length n x < k + 1) (l : List St) (hll : l.length ≤ 16000000) (hl : ∀ y ∈ l, GdS s.length y ∧ x.1 ≤ y.1) :
  ∀ (j i : Nat) (met : List Turn) (out : List St), i + j = l.length → out ≠ [] → RwS s.length a out →
  lim Try.prog cfg (.loop 98 5 (wtg 0) (SE (EJ 92 G0) [(54, .int .i64 i), (53, .int .i64 l.length), (52, FL l.length (stsC l)), (5, .pointer (some ⟨5, 0, none⟩)), (1, .int .i64 n), (0, .pointer (some ⟨0, 0, none⟩))])) (HP (reC s bol mn mx nn set kids met out ++ [X (stC x) 81 0 true])) = some (.code (.exit 0) (SE (EJ 92 G0) [(5, .pointer (some ⟨5, 0, none⟩)), (1, .int .i64 n), (0, .pointer (some ⟨0, 0, none⟩))]), HP (reC s bol mn mx nn set kids (wjab w mn mx k n x (l.drop i) (met, out)).1 (wjab w mn mx k n x (l.drop i) (met, out)).2 ++ [X (stC x) 81 0 true])) := by
 intro j
 induction j with
 | zero =>
  intro i met out hi ho hr
  rw [List.drop_of_length_le (by omega)]
  refine web wje ?_
  unfold woe
  clear IH hk hl
  (repeat' (first | (simp -implicitDefEqProofs (maxSteps := 2000000) (disch := first | with_reducible assumption | omega | (simp only [zS, zA, seval, wy, zD] <;> omega) | fail) only [zS, argl, insA, Go.Den.wm, wo, wu, looks, wab, wz, idOf, riA, seval, Go.Den.wh, kK, wbb, wy, *, zT]) | (with_reducible (first | apply z1 | apply z2 | apply z3 | apply z4) <;> intro hq <;> (try simp only [zH] at hq) <;> (try (exfalso; omega)))))
  all_goals rfl
 | succ j ih =>
  intro i met out hi ho hr
  rw [wnl l (by omega), wrq]
  have hy := hl (l.getD i St.zero) (by rw [List.getD_eq_getElem?_getD, List.getElem?_eq_getElem (by omega)]; exact List.getElem_mem _)
  refine web wje ?_
  unfold woe
  by_cases hc : (l.getD i St.zero).1 ≠ x.1 ∨ n < mn
  ·have hmu2 : muF mn mx s.length (n + 1) (l.getD i St.zero) < k := by
    have h1 := hy.1.hi
    have h2 := hx.hi
    unfold muF at hmu ⊢
    split at hmu
    ·rw [if_pos (by omega)]; omega
    ·rw [if_neg (by omega)]; omega
   have h1 := IH (n + 1) (l.getD i St.zero) met out (by omega) (by omega) hy.1 (by omega) hmu2 ho hr
   have h2 := ih (i + 1) (onF w mn mx k (n + 1) (l.getD i St.zero) (met, out)).1 (onF w mn mx k (n + 1) (l.getD i St.zero) (met, out)).2 (by omega) (on_ne _ _ _ _ ho) (wjmb (fun y hy _ => hk y hy) _ _ _ _ hy.1 (by omega) hr)
   rw [if_pos hc]
   clear IH ih hk
   by_cases hc1 : (l.getD i St.zero).1 = x.1
   ·have hc2 : n < mn := by omega
    (repeat' (first | (simp -implicitDefEqProofs (maxSteps := 2000000) (disch := first | with_reducible assumption | omega | (simp only [zS, zA, seval, wy, zD] <;> omega) | fail) only [zS, argl, insA, Go.Den.wm, wo, wu, looks, wab, wz, idOf, riA, seval, Go.Den.wh, kK, wbb, wy, wjb, wsb, *, zT]) | (with_reducible (first | apply z1 | apply z2 | apply z3 | apply z4) <;> intro hq <;> (try simp only [zH] at hq) <;> (try (exfalso; omega)))))
    exact h2
   ·(repeat' (first | (simp -implicitDefEqProofs (maxSteps := 2000000) (disch := first | with_reducible assumption | omega | (simp only [zS, zA, seval, wy, zD] <;> omega) | fail) only [zS, argl, insA, Go.Den.wm, wo, wu, looks, wab, wz, idOf, riA, seval, Go.Den.wh, kK, wbb, wy, wjb, wsb, *, zT]) | (with_reducible (first | apply z1 | apply z2 | apply z3 | apply z4) <;> intro hq <;> (try simp only [zH] at hq) <;> (try (exfalso; omega)))))
    exact h2
  ·have h2 := ih (i + 1) met out (by omega) ho hr
   rw [if_neg hc]
   have hc1 : (l.getD i St.zero).1 = x.1 := by omega
   have hc2 : ¬ n < mn := by omega
   clear IH ih hk
   (repeat' (first | (simp -implicitDefEqProofs (maxSteps := 2000000) (disch := first | with_reducible assumption | omega | (simp only [zS, zA, seval, wy, zD] <;> omega) | fail) only [zS, argl, insA, Go.Den.wm, wo, wu, looks, wab, wz, idOf, riA, seval, Go.Den.wh, kK, wbb, wy, wjb, wsb, *, zT]) | (with_reducible (first | apply z1 | apply z2 | apply z3 | apply z4) <;> intro hq <;> (try simp only [zH] at hq) <;> (try (exfalso; omega)))))
   exact h2
end
end
end Go.Proofs.Ytjihbfdbgamcdaa
namespace Go.Proofs.Ytjihbfdbgamcdaa
set_option linter.unusedVariables false
set_option linter.unusedSimpArgs false
open Go.Den
noncomputable section
theorem wstb {w : St → List St} {mn mx : Int} {k : Nat} {n : Int} {x : St} : ∀ (l : List St) (b : List Turn × List St), b.2 ≠ [] → (wjab w mn mx k n x l b).2 ≠ [] := by
 intro l
 induction l with
 | nil => intro b hb; exact hb
 | cons y l ih =>
  intro b hb
  rw [wrq]
  refine ih _ ?_
  split
  ·exact on_ne _ _ _ _ hb
  ·exact hb
theorem wlmb {len : Nat} {a : Int} {w : St → List St} {mn mx : Int} (hw : ∀ x, GdS len x → RwS len x.1 (w x)) {k : Nat} {n : Int} {x : St} : ∀ (l : List St) (b : List Turn × List St), (∀ y ∈ l, GdS len y ∧ a ≤ y.1) → RwS len a b.2 → RwS len a (wjab w mn mx k n x l b).2 := by
 intro l
 induction l with
 | nil => intro b _ hb; exact hb
 | cons y l ih =>
  intro b hl hb
  rw [wrq]
  have hy := hl y (List.mem_cons_self ..)
  refine ih _ (fun z hz => hl z (List.mem_cons_of_mem _ hz)) ?_
  split
  ·exact wjmb (fun y hy _ => hw y hy) _ _ _ _ hy.1 hy.2 hb
  ·exact hb
section
variable (s : List UInt8) (bol : Bool) (mn mx nn : Int) (set : BitVec 256) (kids : List Rx)
abbrev feN (met : List Turn) (x : St) : List ABlk := [repB s bol mn mx nn set kids, X [.slice none 0 0, .map (some 3)] 173 0 false, .map (setK trC met), .map [], X (stC x) 81 0 true]
abbrev feE (met : List Turn) (out : List St) (x : St) : List ABlk := [repB s bol mn mx nn set kids, X [FO 5 out.length (stsC out), .map (some 3)] 173 0 false, .map (setK trC met), .map (setK stC out), X (stC x) 81 0 true, .tok out.length 81 9]
def reO (p : List Turn × List St) : List ABlk := if p.2 = [] then reN s bol mn mx nn set kids p.1 else reE s bol mn mx nn set kids p.1 p.2
def feO (p : List Turn × List St) (x : St) : List ABlk := if p.2 = [] then feN s bol mn mx nn set kids p.1 x else feE s bol mn mx nn set kids p.1 p.2 x
def OnN (w : St → List St) (a : Int) (k : Nat) : Prop := ∀ (n : Int) (x : St) (met : List Turn), 0 ≤ n → n + k ≤ 1000 → GdS s.length x → a ≤ x.1 → muF mn mx s.length n x < k →
 lim Try.prog cfg (.call 98 [.pointer (some ⟨0, 0, none⟩), .int .i64 n, .agg ⟨stC x⟩]) (HP (reN s bol mn mx nn set kids met)) = some (.val (.tuple ⟨[]⟩), HP (reO s bol mn mx nn set kids (onF w mn mx k n x (met, []))))
theorem wjjc {mn mx : Int} {len : Nat} {n : Int} {x y : St} {k : Nat} (hx : GdS len x) (hy : GdS len y) (hxy : x.1 ≤ y.1) (hnm : mx < 0 ∨ n < mx) (hc : y.1 ≠ x.1 ∨ n < mn) (hmu : muF mn mx len n x < k + 1) : muF mn mx len (n + 1) y < k := by
 have h1 := hy.hi
 have h2 := hx.hi
 unfold muF at hmu ⊢
 split at hmu
 ·rw [if_pos (by omega)]; omega
 ·rw [if_neg (by omega)]; omega
set_option maxHeartbeats 4000000 in
theorem on_loopE (hs : s.length ≤ 12) (hmn : 0 ≤ mn ∧ mn ≤ 20) (hmx : mx ≤ 20) (w : St → List St) (a : Int) (hk : ∀ y, GdS s.length y → RwS s.length y.1 (w y)) (k : Nat) (IH : OnC s bol mn mx nn set kids w a k) (n : Int) (hn : 0 ≤ n ∧ n + k < 1000) (hnm : mx < 0 ∨ n < mx) (x : St) (hx : GdS s.length x) (hxa : a ≤ x.1) (hmu : muF mn mx s.length n x < k + 1) (l : List St) (hll : l.length ≤ 16000000) (hl : ∀ y ∈ l, GdS s.length y ∧ x.1 ≤ y.1) :
  ∀ (j i : Nat) (met : List Turn) (out : List St), i + j = l.length → out ≠ [] → RwS s.length a out →
  lim Try.prog cfg (.loop 98 4 (wtg 0) (SE (EJ 92 G0) [(54, .int .i64 i), (53, .int .i64 l.length), (52, FL l.length (stsC l)), (5, .pointer (some ⟨4, 0, none⟩)), (1, .int .i64 n), (0, .pointer (some ⟨0, 0, none⟩))])) (HP (feE s bol mn mx nn set kids met out x)) = some (.code (.exit 0) (SE (EJ 92 G0) [(5, .pointer (some ⟨4, 0, none⟩)), (1, .int .i64 n), (0, .pointer (some ⟨0, 0, none⟩))]), HP (feE s bol mn mx nn set kids (wjab w mn mx k n x (l.drop i) (met, out)).1 (wjab w mn mx k n x (l.drop i) (met, out)).2 x)) := by
 intro j
 induction j with
 | zero =>
  intro i met out hi ho hr
  rw [List.drop_of_length_le (by omega)]
  refine web wje ?_
  unfold woe
  clear IH hk hl
  (repeat' (first | (simp -implicitDefEqProofs (maxSteps := 2000000) (disch := first | with_reducible assumption | omega | (simp only [zS, zA, seval, wy, zD] <;> omega) | fail) only [zS, argl, insA, Go.Den.wm, wo, wu, looks, wab, wz, idOf, riA, seval, Go.Den.wh, kK, wbb, wy, *, zT]) | (with_reducible (first | apply z1 | apply z2 | apply z3 | apply z4) <;> intro hq <;> (try simp only [zH] at hq) <;> (try (exfalso; omega)))))
  all_goals rfl
 | succ j ih =>
  intro i met out hi ho hr
  rw [wnl l (by omega), wrq]
  have hy := hl (l.getD i St.zero) (by rw [List.getD_eq_getElem?_getD, List.getElem?_eq_getElem (by omega)]; exact List.getElem_mem _)
  refine web wje ?_
  unfold woe
  by_cases hc : (l.getD i St.zero).1 ≠ x.1 ∨ n < mn
  ·have h1 := IH (n + 1) (l.getD i St.zero) met out (by omega) (by omega) hy.1 (by omega) (wjjc hx hy.1 hy.2 hnm hc hmu) ho hr
   have h2 := ih (i + 1) (onF w mn mx k (n + 1) (l.getD i St.zero) (met, out)).1 (onF w mn mx k (n + 1) (l.getD i St.zero) (met, out)).2 (by omega) (on_ne _ _ _ _ ho) (wjmb (fun y hy _ => hk y hy) _ _ _ _ hy.1 (by omega) hr)
   rw [if_pos hc]
   clear IH ih hk
   by_cases hc1 : (l.getD i St.zero).1 = x.1
   ·have hc2 : n < mn := by omega
    (repeat' (first | (simp -implicitDefEqProofs (maxSteps := 2000000) (disch := first | with_reducible assumption | omega | (simp only [zS, zA, seval, wy, zD] <;> omega) | fail) only [zS, argl, insA, Go.Den.wm, wo, wu, looks, wab, wz, idOf, riA, seval, Go.Den.wh, kK, wbb, wy, wjb, wsb, *, zT]) | (with_reducible (first | apply z1 | apply z2 | apply z3 | apply z4) <;> intro hq <;> (try simp only [zH] at hq) <;> (try (exfalso; omega)))))
    exact h2
   ·(repeat' (first | (simp -implicitDefEqProofs (maxSteps := 2000000) (disch := first | with_reducible assumption | omega | (simp only [zS, zA, seval, wy, zD] <;> omega) | fail) only [zS, argl, insA, Go.Den.wm, wo, wu, looks, wab, wz, idOf, riA, seval, Go.Den.wh, kK, wbb, wy, wjb, wsb, *, zT]) | (with_reducible (first | apply z1 | apply z2 | apply z3 | apply z4) <;> intro hq <;> (try simp only [zH] at hq) <;> (try (exfalso; omega)))))
    exact h2
  ·have h2 := ih (i + 1) met out (by omega) ho hr
   rw [if_neg hc]
   have hc1 : (l.getD i St.zero).1 = x.1 := by omega
   have hc2 : ¬ n < mn := by omega
   clear IH ih hk
   (repeat' (first | (simp -implicitDefEqProofs (maxSteps := 2000000) (disch := first | with_reducible assumption | omega | (simp only [zS, zA, seval, wy, zD] <;> omega) | fail) only [zS, argl, insA, Go.Den.wm, wo, wu, looks, wab, wz, idOf, riA, seval, Go.Den.wh, kK, wbb, wy, wjb, wsb, *, zT]) | (with_reducible (first | apply z1 | apply z2 | apply z3 | apply z4) <;> intro hq <;> (try simp only [zH] at hq) <;> (try (exfalso; omega)))))
   exact h2
set_option maxHeartbeats 4000000 in
theorem on_loopN (hs : s.length ≤ 12) (hmn : 0 ≤ mn ∧ mn ≤ 20) (hmx : mx ≤ 20) (w : St → List St) (a : Int) (hk : ∀ y, GdS s.length y → RwS s.length y.1 (w y)) (k : Nat) (IHC : OnC s bol mn mx nn set kids w a k) (IH : OnN s bol mn mx nn set kids w a k) (n : Int) (hn : 0 ≤ n ∧ n + k < 1000) (hnm : mx < 0 ∨ n < mx) (x : St) (hx : GdS s.length x) (hxa : a ≤ x.1) (hmu : muF mn mx s.length n x < k + 1) (l : List St) (hll : l.length ≤ 16000000) (hl : ∀ y ∈ l, GdS s.length y ∧ x.1 ≤ y.1) :
  ∀ (j i : Nat) (met : List Turn), i + j = l.length →
  lim Try.prog cfg (.loop 98 4 (wtg 0) (SE (EJ 92 G0) [(54, .int .i64 i), (53, .int .i64 l.length), (52, FL l.length (stsC l)), (5, .pointer (some ⟨4, 0, none⟩)), (1, .int .i64 n), (0, .pointer (some ⟨0, 0, none⟩))])) (HP (feN s bol mn mx nn set kids met x)) = some (.code (.exit 0) (SE (EJ 92 G0) [(5, .pointer (some ⟨4, 0, none⟩)), (1, .int .i64 n), (0, .pointer (some ⟨0, 0, none⟩))]), HP (feO s bol mn mx nn set kids (wjab w mn mx k n x (l.drop i) (met, [])) x)) := by
 intro j
 induction j with
 | zero =>
  intro i met hi
  rw [List.drop_of_length_le (by omega)]
  refine web wje ?_
  unfold woe
  clear IH IHC hk hl
  (repeat' (first | (simp -implicitDefEqProofs (maxSteps := 2000000) (disch := first | with_reducible assumption | omega | (simp only [zS, zA, seval, wy, zD] <;> omega) | fail) only [zS, argl, insA, Go.Den.wm, wo, wu, looks, wab, wz, idOf, riA, seval, Go.Den.wh, kK, wbb, wy, *, zT]) | (with_reducible (first | apply z1 | apply z2 | apply z3 | apply z4) <;> intro hq <;> (try simp only [zH] at hq) <;> (try (exfalso; omega)))))
  all_goals rfl
 | succ j ih =>
  intro i met hi
  rw [wnl l (by omega), wrq]
  have hy := hl (l.getD i St.zero) (by rw [List.getD_eq_getElem?_getD, List.getElem?_eq_getElem (by omega)]; exact List.getElem_mem _)
  refine web wje ?_
  unfold woe
  by_cases hc : (l.getD i St.zero).1 ≠ x.1 ∨ n < mn
  ·have h1 := IH (n + 1) (l.getD i St.zero) met (by omega) (by omega) hy.1 (by omega) (wjjc hx hy.1 hy.2 hnm hc hmu)
   rw [if_pos hc]
   have hr := wjmb (a0 := a) (mn := mn) (mx := mx) (fun y hy _ => hk y hy) k (n + 1) (l.getD i St.zero) (met, []) hy.1 (by omega) .nil
   rcases hq : onF w mn mx k (n + 1) (l.getD i St.zero) (met, []) with ⟨met2, out2⟩
   rw [hq] at h1 hr
   unfold reO at h1
   by_cases ho : out2 = []
   ·subst ho
    rw [if_pos rfl] at h1
    have h2 := ih (i + 1) met2 (by omega)
    clear IH IHC ih hk
    by_cases hc1 : (l.getD i St.zero).1 = x.1
    ·have hc2 : n < mn := by omega
     (repeat' (first | (simp -implicitDefEqProofs (maxSteps := 2000000) (disch := first | with_reducible assumption | omega | (simp only [zS, zA, seval, wy, zD] <;> omega) | fail) only [zS, argl, insA, Go.Den.wm, wo, wu, looks, wab, wz, idOf, riA, seval, Go.Den.wh, kK, wbb, wy, wjb, wsb, *, zT]) | (with_reducible (first | apply z1 | apply z2 | apply z3 | apply z4) <;> intro hq <;> (try simp only [zH] at hq) <;> (try (exfalso; omega)))))
     exact h2
    ·(repeat' (first | (simp -implicitDefEqProofs (maxSteps := 2000000) (disch := first | with_reducible assumption | omega | (simp only [zS, zA, seval, wy, zD] <;> omega) | fail) only [zS, argl, insA, Go.Den.wm, wo, wu, looks, wab, wz, idOf, riA, seval, Go.Den.wh, kK, wbb, wy, wjb, wsb, *, zT]) | (with_reducible (first | apply z1 | apply z2 | apply z3 | apply z4) <;> intro hq <;> (try simp only [zH] at hq) <;> (try (exfalso; omega)))))
     exact h2
   ·rw [if_neg ho] at h1
    have h2 := on_loopE s bol mn mx nn set kids hs hmn hmx w a hk k IHC n hn hnm x hx hxa hmu l hll hl j (i + 1) met2 out2 (by omega) ho hr
    rw [feO, if_neg (wstb _ _ ho)]
    clear IH IHC ih hk
    by_cases hc1 : (l.getD i St.zero).1 = x.1
    ·have hc2 : n < mn := by omega
     (repeat' (first | (simp -implicitDefEqProofs (maxSteps := 2000000) (disch := first | with_reducible assumption | omega | (simp only [zS, zA, seval, wy, zD] <;> omega) | fail) only [zS, argl, insA, Go.Den.wm, wo, wu, looks, wab, wz, idOf, riA, seval, Go.Den.wh, kK, wbb, wy, wjb, wsb, *, zT]) | (with_reducible (first | apply z1 | apply z2 | apply z3 | apply z4) <;> intro hq <;> (try simp only [zH] at hq) <;> (try (exfalso; omega)))))
     exact h2
    ·(repeat' (first | (simp -implicitDefEqProofs (maxSteps := 2000000) (disch := first | with_reducible assumption | omega | (simp only [zS, zA, seval, wy, zD] <;> omega) | fail) only [zS, argl, insA, Go.Den.wm, wo, wu, looks, wab, wz, idOf, riA, seval, Go.Den.wh, kK, wbb, wy, wjb, wsb, *, zT]) | (with_reducible (first | apply z1 | apply z2 | apply z3 | apply z4) <;> intro hq <;> (try simp only [zH] at hq) <;> (try (exfalso; omega)))))
     exact h2
  ·have h2 := ih (i + 1) met (by omega)
   rw [if_neg hc]
   have hc1 : (l.getD i St.zero).1 = x.1 := by omega
   have hc2 : ¬ n < mn := by omega
   clear IH IHC ih hk
   (repeat' (first | (simp -implicitDefEqProofs (maxSteps := 2000000) (disch := first | with_reducible assumption | omega | (simp only [zS, zA, seval, wy, zD] <;> omega) | fail) only [zS, argl, insA, Go.Den.wm, wo, wu, looks, wab, wz, idOf, riA, seval, Go.Den.wh, kK, wbb, wy, wjb, wsb, *, zT]) | (with_reducible (first | apply z1 | apply z2 | apply z3 | apply z4) <;> intro hq <;> (try simp only [zH] at hq) <;> (try (exfalso; omega)))))
   exact h2
end
end
end Go.Proofs.Ytjihbfdbgamcdaa
namespace Go.Proofs.Ytjihbfdbgamcdaa
set_option linter.unusedVariables false
set_option linter.unusedSimpArgs false
open Go.Den
noncomputable section
section
variable (s : List UInt8) (bol : Bool) (mn mx nn : Int) (set : BitVec 256) (kids : List Rx)
theorem wkjc {w : St → List St} {mn mx : Int} {k : Nat} {n : Int} {x : St} {a : List Turn × List St} (h : keyF mn mx n x ∈ a.1) : onF w mn mx (k + 1) n x a = a := by
 rw [onF, if_pos h]
theorem wkib {w : St → List St} {mn mx : Int} {k : Nat} {n : Int} {x : St} {met : List Turn} {out : List St} (h : keyF mn mx n x ∉ met) (b : List Turn × List St) (hb : b = if mx < 0 ∨ n < mx then wjab w mn mx k n x (w x) (met ++ [keyF mn mx n x], out) else (met ++ [keyF mn mx n x], out)) :
  onF w mn mx (k + 1) n x (met, out) = if n ≥ mn then (b.1, addF b.2 [x]) else b := by
 rw [onF, if_neg h, hb]
 rfl
set_option maxHeartbeats 4000000 in
theorem ev_on_C (hs : s.length ≤ 12) (hmn : 0 ≤ mn ∧ mn ≤ 20) (hmx : mx ≤ 20) (w : St → List St) (a : Int) (hk : KidOk s bol kids w) (k : Nat) (IH : OnC s bol mn mx nn set kids w a k) : OnC s bol mn mx nn set kids w a (k + 1) := by
 intro n x met out hn hn2 hx hxa hmu ho hr
 obtain ⟨kid, k1, k2, k3⟩ := hk
 have hw := fun y hy => (k3 y hy).1
 have ⟨r1, r2⟩ := k3 x hx
 have r3 := row_len r1 hs
 have key := ev_key_C s bol mn mx nn set kids
 refine wkb hc wrn (Nat.le_of_ble_eq_true rfl) (Nat.le_of_ble_eq_true rfl) ?_
 unfold wkm
 by_cases hm : keyF mn mx n x ∈ met
 ·rw [wkjc hm]
  clear IH k3 hw r1 r2
  (repeat' (first | (simp -implicitDefEqProofs (maxSteps := 2000000) (disch := first | with_reducible assumption | omega | (simp only [zS, zA, seval, wy, wsi, wjb, wsb, zD] <;> omega) | fail) only [zS, argl, insA, Go.Den.wm, wo, wu, looks, wab, wz, idOf, riA, seval, Go.Den.wh, kK, wy, wjb, wsb, wnf wok, wjj, wsi, *, zT]) | (with_reducible (first | apply z1 | apply z2 | apply z3 | apply z4) <;> intro hq <;> (try simp only [zH] at hq) <;> (try (exfalso; omega))) | (with_reducible apply z5; (case hl => (repeat (first | exact .nil | with_reducible apply z6 | with_reducible apply z7))); (case h => kernel_rfl))))
 ·by_cases hnm : mx < 0 ∨ n < mx
  ·have hb := wkib (w := w) (k := k) (out := out) hm _ rfl
   rw [if_pos hnm] at hb
   have hl := on_loopC s bol mn mx nn set kids hs hmn hmx w a hw k IH n ⟨hn, by omega⟩ hnm x hx hxa hmu (w x) (by omega) r1.good (w x).length 0 (met ++ [keyF mn mx n x]) out (by omega) ho hr
   rw [List.drop_zero, show ((0 : Nat) : Int) = 0 from rfl] at hl
   simp only [List.cons_append, List.nil_append] at hl
   have hbr := wlmb (a := a) (mn := mn) (mx := mx) hw (k := k) (n := n) (x := x) (w x) (met ++ [keyF mn mx n x], out) (fun y hy => ⟨(r1.good y hy).1, by have := (r1.good y hy).2; omega⟩) hr
   have hbn := wstb (w := w) (mn := mn) (mx := mx) (k := k) (n := n) (x := x) (w x) (met ++ [keyF mn mx n x], out) ho
   generalize wjab w mn mx k n x (w x) (met ++ [keyF mn mx n x], out) = b at hb hl hbr hbn
   obtain ⟨bm, bo⟩ := b
   simp only at hb hl hbr hbn
   rw [hb]
   have hadd := wxu bo [x] hbn (by simp) (by have := row_len (hbr.add (xs := [x]) (fun y hy => by rw [List.mem_singleton] at hy; subst hy; exact ⟨hx, hxa⟩)) hs; omega)
   rw [woj, show [x].length = 1 from rfl] at hadd
   clear IH k3 hw r1 hb hbr
   by_cases hge : n ≥ mn
   ·rw [if_pos hge]
    by_cases hmx0 : mx < 0
    ·(repeat' (first | (simp -implicitDefEqProofs (maxSteps := 2000000) (disch := first | with_reducible assumption | omega | (simp only [zS, zA, seval, wy, wsi, wjb, wsb, zD] <;> omega) | fail) only [zS, argl, insA, Go.Den.wm, wo, wu, looks, wab, wz, idOf, riA, seval, Go.Den.wh, kK, wbb, wy, wjb, wsb, wnf wok, woi wok, wjj, wsi, *, zT]) | (with_reducible (first | apply z1 | apply z2 | apply z3 | apply z4) <;> intro hq <;> (try simp only [zH] at hq) <;> (try (exfalso; omega))) | (with_reducible apply z5; (case hl => (repeat (first | exact .nil | with_reducible apply z6 | with_reducible apply z7))); (case h => kernel_rfl))))
    ·have hnm2 : n < mx := by omega
     (repeat' (first | (simp -implicitDefEqProofs (maxSteps := 2000000) (disch := first | with_reducible assumption | omega | (simp only [zS, zA, seval, wy, wsi, wjb, wsb, zD] <;> omega) | fail) only [zS, argl, insA, Go.Den.wm, wo, wu, looks, wab, wz, idOf, riA, seval, Go.Den.wh, kK, wbb, wy, wjb, wsb, wnf wok, woi wok, wjj, wsi, *, zT]) | (with_reducible (first | apply z1 | apply z2 | apply z3 | apply z4) <;> intro hq <;> (try simp only [zH] at hq) <;> (try (exfalso; omega))) | (with_reducible apply z5; (case hl => (repeat (first | exact .nil | with_reducible apply z6 | with_reducible apply z7))); (case h => kernel_rfl))))
   ·rw [if_neg hge]
    by_cases hmx0 : mx < 0
    ·(repeat' (first | (simp -implicitDefEqProofs (maxSteps := 2000000) (disch := first | with_reducible assumption | omega | (simp only [zS, zA, seval, wy, wsi, wjb, wsb, zD] <;> omega) | fail) only [zS, argl, insA, Go.Den.wm, wo, wu, looks, wab, wz, idOf, riA, seval, Go.Den.wh, kK, wbb, wy, wjb, wsb, wnf wok, woi wok, wjj, wsi, *, zT]) | (with_reducible (first | apply z1 | apply z2 | apply z3 | apply z4) <;> intro hq <;> (try simp only [zH] at hq) <;> (try (exfalso; omega))) | (with_reducible apply z5; (case hl => (repeat (first | exact .nil | with_reducible apply z6 | with_reducible apply z7))); (case h => kernel_rfl))))
    ·have hnm2 : n < mx := by omega
     (repeat' (first | (simp -implicitDefEqProofs (maxSteps := 2000000) (disch := first | with_reducible assumption | omega | (simp only [zS, zA, seval, wy, wsi, wjb, wsb, zD] <;> omega) | fail) only [zS, argl, insA, Go.Den.wm, wo, wu, looks, wab, wz, idOf, riA, seval, Go.Den.wh, kK, wbb, wy, wjb, wsb, wnf wok, woi wok, wjj, wsi, *, zT]) | (with_reducible (first | apply z1 | apply z2 | apply z3 | apply z4) <;> intro hq <;> (try simp only [zH] at hq) <;> (try (exfalso; omega))) | (with_reducible apply z5; (case hl => (repeat (first | exact .nil | with_reducible apply z6 | with_reducible apply z7))); (case h => kernel_rfl))))
  ·have hb := wkib (w := w) (k := k) (out := out) hm _ rfl
   rw [if_neg hnm] at hb
   simp only at hb
   rw [hb]
   have hmx0 : ¬ mx < 0 := fun h => hnm (.inl h)
   have hnm2 : ¬ n < mx := fun h => hnm (.inr h)
   have hadd := wxu out [x] ho (by simp) (by have := row_len (hr.add (xs := [x]) (fun y hy => by rw [List.mem_singleton] at hy; subst hy; exact ⟨hx, hxa⟩)) hs; omega)
   rw [woj, show [x].length = 1 from rfl] at hadd
   clear IH k3 hw r1 r2 hb hnm
   by_cases hge : n ≥ mn
   ·rw [if_pos hge]
    (repeat' (first | (simp -implicitDefEqProofs (maxSteps := 2000000) (disch := first | with_reducible assumption | omega | (simp only [zS, zA, seval, wy, wsi, wjb, wsb, zD] <;> omega) | fail) only [zS, argl, insA, Go.Den.wm, wo, wu, looks, wab, wz, idOf, riA, seval, Go.Den.wh, kK, wbb, wy, wjb, wsb, wnf wok, woi wok, wjj, wsi, *, zT]) | (with_reducible (first | apply z1 | apply z2 | apply z3 | apply z4) <;> intro hq <;> (try simp only [zH] at hq) <;> (try (exfalso; omega))) | (with_reducible apply z5; (case hl => (repeat (first | exact .nil | with_reducible apply z6 | with_reducible apply z7))); (case h => kernel_rfl))))
   ·rw [if_neg hge]
    (repeat' (first | (simp -implicitDefEqProofs (maxSteps := 2000000) (disch := first | with_reducible assumption | omega | (simp only [zS, zA, seval, wy, wsi, wjb, wsb, zD] <;> omega) | fail) only [zS, argl, insA, Go.Den.wm, wo, wu, looks, wab, wz, idOf, riA, seval, Go.Den.wh, kK, wbb, wy, wjb, wsb, wnf wok, woi wok, wjj, wsi, *, zT]) | (with_reducible (first | apply z1 | apply z2 | apply z3 | apply z4) <;> intro hq <;> (try simp only [zH] at hq) <;> (try (exfalso; omega))) | (with_reducible apply z5; (case hl => (repeat (first | exact .nil | with_reducible apply z6 | with_reducible apply z7))); (case h => kernel_rfl))))
end
end
end Go.Proofs.Ytjihbfdbgamcdaa
namespace Go.Proofs.Ytjihbfdbgamcdaa
set_option linter.unusedVariables false
set_option linter.unusedSimpArgs false
open Go.Den
noncomputable section
section
variable (s : List UInt8) (bol : Bool) (mn mx nn : Int) (set : BitVec 256) (kids : List Rx)
set_option maxHeartbeats 4000000 in
theorem ev_on_N (hs : s.length ≤ 12) (hmn : 0 ≤ mn ∧ mn ≤ 20) (hmx : mx ≤ 20) (w : St → List St) (a : Int) (hk : KidOk s bol kids w) (k : Nat) (IHC : OnC s bol mn mx nn set kids w a k) (IH : OnN s bol mn mx nn set kids w a k) : OnN s bol mn mx nn set kids w a (k + 1) := by
 intro n x met hn hn2 hx hxa hmu
 obtain ⟨kid, k1, k2, k3⟩ := hk
 have hw := fun y hy => (k3 y hy).1
 have ⟨r1, r2⟩ := k3 x hx
 have r3 := row_len r1 hs
 have key := ev_key_N s bol mn mx nn set kids
 refine wkb hc wrn (Nat.le_of_ble_eq_true rfl) (Nat.le_of_ble_eq_true rfl) ?_
 unfold wkm
 by_cases hm : keyF mn mx n x ∈ met
 ·rw [wkjc hm, reO, if_pos rfl]
  clear IH IHC k3 hw r1 r2
  (repeat' (first | (simp -implicitDefEqProofs (maxSteps := 2000000) (disch := first | with_reducible assumption | omega | (simp only [zS, zA, seval, wy, wsi, wjb, wsb, zD] <;> omega) | fail) only [zS, argl, insA, Go.Den.wm, wo, wu, looks, wab, wz, idOf, riA, seval, Go.Den.wh, kK, wy, wjb, wsb, wnf wok, wjj, wsi, *, zT]) | (with_reducible (first | apply z1 | apply z2 | apply z3 | apply z4) <;> intro hq <;> (try simp only [zH] at hq) <;> (try (exfalso; omega))) | (with_reducible apply z5; (case hl => (repeat (first | exact .nil | with_reducible apply z6 | with_reducible apply z7))); (case h => kernel_rfl))))
 ·by_cases hnm : mx < 0 ∨ n < mx
  ·have hb := wkib (w := w) (k := k) (out := []) hm _ rfl
   rw [if_pos hnm] at hb
   have hl := on_loopN s bol mn mx nn set kids hs hmn hmx w a hw k IHC IH n ⟨hn, by omega⟩ hnm x hx hxa hmu (w x) (by omega) r1.good (w x).length 0 (met ++ [keyF mn mx n x]) (by omega)
   rw [List.drop_zero, show ((0 : Nat) : Int) = 0 from rfl] at hl
   have hbr := wlmb (a := a) (mn := mn) (mx := mx) hw (k := k) (n := n) (x := x) (w x) (met ++ [keyF mn mx n x], []) (fun y hy => ⟨(r1.good y hy).1, by have := (r1.good y hy).2; omega⟩) .nil
   generalize wjab w mn mx k n x (w x) (met ++ [keyF mn mx n x], []) = b at hb hl hbr
   obtain ⟨bm, bo⟩ := b
   simp only at hb hbr
   rw [hb]
   have hlen : (addF bo [x]).length ≤ 16000000 := by have := row_len (hbr.add (xs := [x]) (fun y hy => by rw [List.mem_singleton] at hy; subst hy; exact ⟨hx, hxa⟩)) hs; omega
   clear IH IHC k3 hw r1 hb hbr
   unfold feO at hl
   by_cases hbo : bo = []
   ·subst hbo
    rw [if_pos rfl] at hl
    have hadd := wgy [x] (by simp) (by simp) hlen
    rw [woj, show [x].length = 1 from rfl] at hadd
    by_cases hge : n ≥ mn
    ·rw [if_pos hge, reO, if_neg (wyl (.inr (by simp)))]
     by_cases hmx0 : mx < 0
     ·(repeat' (first | (simp -implicitDefEqProofs (maxSteps := 2000000) (disch := first | with_reducible assumption | omega | (simp only [zS, zA, seval, wy, wsi, wjb, wsb, zD] <;> omega) | fail) only [zS, argl, insA, Go.Den.wm, wo, wu, looks, wab, wz, idOf, riA, seval, Go.Den.wh, kK, wbb, wy, wjb, wsb, wnf wok, woi wok, wjj, wsi, *, zT]) | (with_reducible (first | apply z1 | apply z2 | apply z3 | apply z4) <;> intro hq <;> (try simp only [zH] at hq) <;> (try (exfalso; omega))) | (with_reducible apply z5; (case hl => (repeat (first | exact .nil | with_reducible apply z6 | with_reducible apply z7))); (case h => kernel_rfl))))
     ·have hnm2 : n < mx := by omega
      (repeat' (first | (simp -implicitDefEqProofs (maxSteps := 2000000) (disch := first | with_reducible assumption | omega | (simp only [zS, zA, seval, wy, wsi, wjb, wsb, zD] <;> omega) | fail) only [zS, argl, insA, Go.Den.wm, wo, wu, looks, wab, wz, idOf, riA, seval, Go.Den.wh, kK, wbb, wy, wjb, wsb, wnf wok, woi wok, wjj, wsi, *, zT]) | (with_reducible (first | apply z1 | apply z2 | apply z3 | apply z4) <;> intro hq <;> (try simp only [zH] at hq) <;> (try (exfalso; omega))) | (with_reducible apply z5; (case hl => (repeat (first | exact .nil | with_reducible apply z6 | with_reducible apply z7))); (case h => kernel_rfl))))
    ·rw [if_neg hge, reO, if_pos rfl]
     by_cases hmx0 : mx < 0
     ·(repeat' (first | (simp -implicitDefEqProofs (maxSteps := 2000000) (disch := first | with_reducible assumption | omega | (simp only [zS, zA, seval, wy, wsi, wjb, wsb, zD] <;> omega) | fail) only [zS, argl, insA, Go.Den.wm, wo, wu, looks, wab, wz, idOf, riA, seval, Go.Den.wh, kK, wbb, wy, wjb, wsb, wnf wok, woi wok, wjj, wsi, *, zT]) | (with_reducible (first | apply z1 | apply z2 | apply z3 | apply z4) <;> intro hq <;> (try simp only [zH] at hq) <;> (try (exfalso; omega))) | (with_reducible apply z5; (case hl => (repeat (first | exact .nil | with_reducible apply z6 | with_reducible apply z7))); (case h => kernel_rfl))))
     ·have hnm2 : n < mx := by omega
      (repeat' (first | (simp -implicitDefEqProofs (maxSteps := 2000000) (disch := first | with_reducible assumption | omega | (simp only [zS, zA, seval, wy, wsi, wjb, wsb, zD] <;> omega) | fail) only [zS, argl, insA, Go.Den.wm, wo, wu, looks, wab, wz, idOf, riA, seval, Go.Den.wh, kK, wbb, wy, wjb, wsb, wnf wok, woi wok, wjj, wsi, *, zT]) | (with_reducible (first | apply z1 | apply z2 | apply z3 | apply z4) <;> intro hq <;> (try simp only [zH] at hq) <;> (try (exfalso; omega))) | (with_reducible apply z5; (case hl => (repeat (first | exact .nil | with_reducible apply z6 | with_reducible apply z7))); (case h => kernel_rfl))))
   ·rw [if_neg hbo] at hl
    have hadd := wxu bo [x] hbo (by simp) hlen
    rw [woj, show [x].length = 1 from rfl] at hadd
    by_cases hge : n ≥ mn
    ·rw [if_pos hge, reO, if_neg (wyl (.inr (by simp)))]
     by_cases hmx0 : mx < 0
     ·(repeat' (first | (simp -implicitDefEqProofs (maxSteps := 2000000) (disch := first | with_reducible assumption | omega | (simp only [zS, zA, seval, wy, wsi, wjb, wsb, zD] <;> omega) | fail) only [zS, argl, insA, Go.Den.wm, wo, wu, looks, wab, wz, idOf, riA, seval, Go.Den.wh, kK, wbb, wy, wjb, wsb, wnf wok, woi wok, wjj, wsi, *, zT]) | (with_reducible (first | apply z1 | apply z2 | apply z3 | apply z4) <;> intro hq <;> (try simp only [zH] at hq) <;> (try (exfalso; omega))) | (with_reducible apply z5; (case hl => (repeat (first | exact .nil | with_reducible apply z6 | with_reducible apply z7))); (case h => kernel_rfl))))
     ·have hnm2 : n < mx := by omega
      (repeat' (first | (simp -implicitDefEqProofs (maxSteps := 2000000) (disch := first | with_reducible assumption | omega | (simp only [zS, zA, seval, wy, wsi, wjb, wsb, zD] <;> omega) | fail) only [zS, argl, insA, Go.Den.wm, wo, wu, looks, wab, wz, idOf, riA, seval, Go.Den.wh, kK, wbb, wy, wjb, wsb, wnf wok, woi wok, wjj, wsi, *, zT]) | (with_reducible (first | apply z1 | apply z2 | apply z3 | apply z4) <;> intro hq <;> (try simp only [zH] at hq) <;> (try (exfalso; omega))) | (with_reducible apply z5; (case hl => (repeat (first | exact .nil | with_reducible apply z6 | with_reducible apply z7))); (case h => kernel_rfl))))
    ·rw [if_neg hge, reO, if_neg hbo]
     by_cases hmx0 : mx < 0
     ·(repeat' (first | (simp -implicitDefEqProofs (maxSteps := 2000000) (disch := first | with_reducible assumption | omega | (simp only [zS, zA, seval, wy, wsi, wjb, wsb, zD] <;> omega) | fail) only [zS, argl, insA, Go.Den.wm, wo, wu, looks, wab, wz, idOf, riA, seval, Go.Den.wh, kK, wbb, wy, wjb, wsb, wnf wok, woi wok, wjj, wsi, *, zT]) | (with_reducible (first | apply z1 | apply z2 | apply z3 | apply z4) <;> intro hq <;> (try simp only [zH] at hq) <;> (try (exfalso; omega))) | (with_reducible apply z5; (case hl => (repeat (first | exact .nil | with_reducible apply z6 | with_reducible apply z7))); (case h => kernel_rfl))))
     ·have hnm2 : n < mx := by omega
      (repeat' (first | (simp -implicitDefEqProofs (maxSteps := 2000000) (disch := first | with_reducible assumption | omega | (simp only [zS, zA, seval, wy, wsi, wjb, wsb, zD] <;> omega) | fail) only [zS, argl, insA, Go.Den.wm, wo, wu, looks, wab, wz, idOf, riA, seval, Go.Den.wh, kK, wbb, wy, wjb, wsb, wnf wok, woi wok, wjj, wsi, *, zT]) | (with_reducible (first | apply z1 | apply z2 | apply z3 | apply z4) <;> intro hq <;> (try simp only [zH] at hq) <;> (try (exfalso; omega))) | (with_reducible apply z5; (case hl => (repeat (first | exact .nil | with_reducible apply z6 | with_reducible apply z7))); (case h => kernel_rfl))))
  ·have hb := wkib (w := w) (k := k) (out := []) hm _ rfl
   rw [if_neg hnm] at hb
   simp only at hb
   rw [hb]
   have hmx0 : ¬ mx < 0 := fun h => hnm (.inl h)
   have hnm2 : ¬ n < mx := fun h => hnm (.inr h)
   have hadd := wgy [x] (by simp) (by simp) (by have := row_len ((RwS.nil (len := s.length) (a := a)).add (xs := [x]) (fun y hy => by rw [List.mem_singleton] at hy; subst hy; exact ⟨hx, hxa⟩)) hs; omega)
   rw [woj, show [x].length = 1 from rfl] at hadd
   clear IH IHC k3 hw r1 r2 hb hnm
   by_cases hge : n ≥ mn
   ·rw [if_pos hge, reO, if_neg (wyl (.inr (by simp)))]
    (repeat' (first | (simp -implicitDefEqProofs (maxSteps := 2000000) (disch := first | with_reducible assumption | omega | (simp only [zS, zA, seval, wy, wsi, wjb, wsb, zD] <;> omega) | fail) only [zS, argl, insA, Go.Den.wm, wo, wu, looks, wab, wz, idOf, riA, seval, Go.Den.wh, kK, wbb, wy, wjb, wsb, wnf wok, woi wok, wjj, wsi, *, zT]) | (with_reducible (first | apply z1 | apply z2 | apply z3 | apply z4) <;> intro hq <;> (try simp only [zH] at hq) <;> (try (exfalso; omega))) | (with_reducible apply z5; (case hl => (repeat (first | exact .nil | with_reducible apply z6 | with_reducible apply z7))); (case h => kernel_rfl))))
   ·rw [if_neg hge, reO, if_pos rfl]
    (repeat' (first | (simp -implicitDefEqProofs (maxSteps := 2000000) (disch := first | with_reducible assumption | omega | (simp only [zS, zA, seval, wy, wsi, wjb, wsb, zD] <;> omega) | fail) only [zS, argl, insA, Go.Den.wm, wo, wu, looks, wab, wz, idOf, riA, seval, Go.Den.wh, kK, wbb, wy, wjb, wsb, wnf wok, woi wok, wjj, wsi, *, zT]) | (with_reducible (first | apply z1 | apply z2 | apply z3 | apply z4) <;> intro hq <;> (try simp only [zH] at hq) <;> (try (exfalso; omega))) | (with_reducible apply z5; (case hl => (repeat (first | exact .nil | with_reducible apply z6 | with_reducible apply z7))); (case h => kernel_rfl))))
theorem on_all (hs : s.length ≤ 12) (hmn : 0 ≤ mn ∧ mn ≤ 20) (hmx : mx ≤ 20) (w : St → List St) (a : Int) (hk : KidOk s bol kids w) : ∀ k, OnC s bol mn mx nn set kids w a k ∧ OnN s bol mn mx nn set kids w a k := by
 intro k
 induction k with
 | zero => exact ⟨fun n x met out _ _ _ _ h => absurd h (Nat.not_lt_zero _), fun n x met _ _ _ _ h => absurd h (Nat.not_lt_zero _)⟩
 | succ k ih => exact ⟨ev_on_C s bol mn mx nn set kids hs hmn hmx w a hk k ih.1, ev_on_N s bol mn mx nn set kids hs hmn hmx w a hk k ih.1 ih.2⟩
end
end
end Go.Proofs.Ytjihbfdbgamcdaa
namespace Go.Proofs.Ytjihbfdbgamcdaa
set_option linter.unusedVariables false
set_option linter.unusedSimpArgs false
open Go.Den
noncomputable section
section
variable (s : List UInt8) (bol : Bool)
def grpF (n : Int) (x y : St) : St := (y.1, (y.2.put (n.toNat * 2) x.1).put (n.toNat * 2 + 1) y.1)
abbrev gfN (r : Rx) (x : St) : List ABlk := [X (rxC r) 46 0 true, X (stC x) 81 0 true, X [.slice none 0 0, .map (some 3)] 173 0 false, .map []]
abbrev gfC (r : Rx) (x : St) (out : List St) : List ABlk := [X (rxC r) 46 0 true, X (stC x) 81 0 true, X [FO 3 out.length (stsC out), .map (some 4)] 173 0 false, .tok out.length 81 9, .map (setK stC out)]
set_option maxHeartbeats 4000000 in
theorem wljc (hs : s.length ≤ 12) (r : Rx) (n1 : 1 ≤ r.n) (n3 : r.n ≤ 3) (x : St) (hx : GdS s.length x) (l : List St) (hll : l.length ≤ 16000000) (hl : ∀ y ∈ l, GdS s.length y ∧ x.1 ≤ y.1) :
  ∀ (j i : Nat) (out : List St), i + j = l.length → out ≠ [] → RwS s.length x.1 out →
  lim Try.prog cfg (.loop 67 0 (wdc 0) (SE (EJ 158 G0) [(82, .int .i64 i), (81, .int .i64 l.length), (80, FL l.length (stsC l)), (8, .pointer (some ⟨2, 0, none⟩)), (5, .pointer (some ⟨1, 0, none⟩)), (4, .pointer (some ⟨0, 0, none⟩))])) (HP (gfC r x out)) = some (.code (.exit 1) (SE (EJ 158 G0) [(8, .pointer (some ⟨0, 0, none⟩))]), HP (rowC (wiy (fun y => [grpF r.n x y]) (l.drop i) out))) := by
 intro j
 induction j with
 | zero =>
  intro i out hi ho hr
  rw [List.drop_of_length_le (by omega)]
  refine web wci ?_
  unfold wbi
  clear hl
  (repeat' (first | (simp -implicitDefEqProofs (maxSteps := 2000000) (disch := first | with_reducible assumption | omega | (simp only [zS, zA, seval, wy, zD] <;> omega) | fail) only [zS, argl, insA, Go.Den.wm, wo, wu, looks, wab, wz, idOf, riA, seval, Go.Den.wh, kK, wug, wy, *, zT]) | (with_reducible (first | apply z1 | apply z2 | apply z3 | apply z4) <;> intro hq <;> (try simp only [zH] at hq) <;> (try (exfalso; omega)))))
  all_goals rfl
 | succ j ih =>
  intro i out hi ho hr
  rw [wnl l (by omega), whz]
  have hy := hl (l.getD i St.zero) (by rw [List.getD_eq_getElem?_getD, List.getElem?_eq_getElem (by omega)]; exact List.getElem_mem _)
  have h3 : RwS s.length x.1 (addF out [grpF r.n x (l.getD i St.zero)]) := hr.add (fun z hz => by rw [List.mem_singleton] at hz; subst hz; exact ⟨hx.group hy.1 hy.2 n1 n3, hy.2⟩)
  have hadd := wxu out [grpF r.n x (l.getD i St.zero)] ho (by simp) (by have := row_len h3 hs; omega)
  have h2 := ih (i + 1) _ (by omega) (wyl (.inl ho)) h3
  rw [woj, show [grpF r.n x (l.getD i St.zero)].length = 1 from rfl, show stC (grpF r.n x (l.getD i St.zero)) = .int .i64 (l.getD i St.zero).1 :: mtC (((l.getD i St.zero).2.put (r.n.toNat * 2) x.1).put (r.n.toNat * 2 + 1) (l.getD i St.zero).1) from rfl] at hadd
  refine web wci ?_
  unfold wbi
  clear ih hl h3 hr hy
  (repeat' (first | (simp -implicitDefEqProofs (maxSteps := 2000000) (disch := first | with_reducible assumption | omega | (simp only [zS, zA, seval, wy, wjb, zD] <;> omega) | fail) only [zS, argl, insA, Go.Den.wm, wo, wu, looks, wab, wz, idOf, riA, seval, Go.Den.wh, kK, wug, wy, wjb, *, zT]) | (with_reducible (first | apply z1 | apply z2 | apply z3 | apply z4) <;> intro hq <;> (try simp only [zH] at hq) <;> (try (exfalso; omega)))))
  exact h2
set_option maxHeartbeats 4000000 in
theorem wmjc (hs : s.length ≤ 12) (r : Rx) (n1 : 1 ≤ r.n) (n3 : r.n ≤ 3) (x : St) (hx : GdS s.length x) (l : List St) (hll : l.length ≤ 16000000) (hl : ∀ y ∈ l, GdS s.length y ∧ x.1 ≤ y.1) :
  lim Try.prog cfg (.loop 67 0 (wdc 0) (SE (EJ 158 G0) [(82, .int .i64 0), (81, .int .i64 l.length), (80, FL l.length (stsC l)), (8, .pointer (some ⟨2, 0, none⟩)), (5, .pointer (some ⟨1, 0, none⟩)), (4, .pointer (some ⟨0, 0, none⟩))])) (HP (gfN r x)) = some (.code (.exit 1) (SE (EJ 158 G0) [(8, .pointer (some ⟨0, 0, none⟩))]), HP (rowO (wiy (fun y => [grpF r.n x y]) l []))) := by
 by_cases h0 : l = []
 ·subst h0
  clear hl
  refine web wci ?_
  unfold wbi
  (repeat' (first | (simp -implicitDefEqProofs (maxSteps := 2000000) (disch := first | with_reducible assumption | omega | (simp only [zS, zA, seval, wy, zD] <;> omega) | fail) only [zS, argl, insA, Go.Den.wm, wo, wu, looks, wab, wz, idOf, riA, seval, Go.Den.wh, kK, wug, wy, *, zT]) | (with_reducible (first | apply z1 | apply z2 | apply z3 | apply z4) <;> intro hq <;> (try simp only [zH] at hq) <;> (try (exfalso; omega)))))
  all_goals rfl
 ·have h00 : 0 < l.length := List.length_pos_iff.2 h0
  have hd := wnl l h00
  rw [List.drop_zero] at hd
  have hy := hl (l.getD 0 St.zero) (by rw [List.getD_eq_getElem?_getD, List.getElem?_eq_getElem (by omega)]; exact List.getElem_mem _)
  have h3 : RwS s.length x.1 (addF [] [grpF r.n x (l.getD 0 St.zero)]) := RwS.nil.add (fun z hz => by rw [List.mem_singleton] at hz; subst hz; exact ⟨hx.group hy.1 hy.2 n1 n3, hy.2⟩)
  have hadd := wgy [grpF r.n x (l.getD 0 St.zero)] (by simp) (by simp) (by have := row_len h3 hs; omega)
  have h2 := wljc s hs r n1 n3 x hx l hll hl (l.length - 1) 1 (addF [] [grpF r.n x (l.getD 0 St.zero)]) (by omega) (wyl (.inr (by simp))) h3
  have he : wiy (fun y => [grpF r.n x y]) l [] = wiy (fun y => [grpF r.n x y]) (l.drop 1) (addF [] [grpF r.n x (l.getD 0 St.zero)]) := by
   conv => lhs; rw [hd]
   rfl
  rw [he, rowO, if_neg (wqtb _ _ _ (wyl (.inr (by simp))))]
  rw [woj, show [grpF r.n x (l.getD 0 St.zero)].length = 1 from rfl, show stC (grpF r.n x (l.getD 0 St.zero)) = .int .i64 (l.getD 0 St.zero).1 :: mtC (((l.getD 0 St.zero).2.put (r.n.toNat * 2) x.1).put (r.n.toNat * 2 + 1) (l.getD 0 St.zero).1) from rfl] at hadd
  have hg := wtu (l := l) (i := 0) h00
  rw [Nat.zero_mul] at hg
  refine web wci ?_
  unfold wbi
  clear hl h3 hy he hd
  (repeat' (first | (simp -implicitDefEqProofs (maxSteps := 2000000) (disch := first | with_reducible assumption | omega | (simp only [zS, zA, seval, wy, wjb, zD] <;> omega) | fail) only [zS, argl, insA, Go.Den.wm, wo, wu, looks, wab, wz, idOf, riA, seval, Go.Den.wh, kK, wug, wy, wjb, *, zT]) | (with_reducible (first | apply z1 | apply z2 | apply z3 | apply z4) <;> intro hq <;> (try simp only [zH] at hq) <;> (try (exfalso; omega)))))
  exact h2
def wmmb (kids : List Rx) : Prop := ∀ r ∈ kids, ∀ y, GdS s.length y → RwS s.length y.1 (wcg s bol r y) ∧ lim Try.prog cfg (.call 67 [.agg ⟨[str s, .bool bol]⟩, .agg ⟨rxC r⟩, .agg ⟨stC y⟩]) (HP []) = some (.val (FL (wcg s bol r y).length (stsC (wcg s bol r y))), HP [])
theorem wlib (kids : List Rx) {i : Nat} (h : i < kids.length) : kids.drop i = kids.getD i Rx.zero :: kids.drop (i + 1) := by
 rw [List.drop_eq_getElem_cons h, List.getD_eq_getElem?_getD, List.getElem?_eq_getElem h]; rfl
theorem warb (kids : List Rx) {i : Nat} (h : i < kids.length) : kids.getD i Rx.zero ∈ kids := by
 rw [List.getD_eq_getElem?_getD, List.getElem?_eq_getElem h]; exact List.getElem_mem _
abbrev afN (x : St) : List ABlk := [X [str s, .bool bol] 129 0 true, X (stC x) 81 0 true, X [.slice none 0 0, .map (some 3)] 173 0 false, .map []]
abbrev afC (x : St) (out : List St) : List ABlk := [X [str s, .bool bol] 129 0 true, X (stC x) 81 0 true, X [FO 3 out.length (stsC out), .map (some 4)] 173 0 false, .tok out.length 81 9, .map (setK stC out)]
theorem altF_ne {x : St} : ∀ (l : List Rx) (out : List St), out ≠ [] → altF s bol l x out ≠ [] := by
 intro l
 induction l with
 | nil => intro out h; rw [altF]; exact h
 | cons r l ih => intro out h; rw [altF]; exact ih _ (wyl (.inl h))
set_option maxHeartbeats 4000000 in
theorem wnjc (hs : s.length ≤ 12) (x : St) (hx : GdS s.length x) (kids : List Rx) (hll : kids.length ≤ 16000000) (hk : wmmb s bol kids) :
  ∀ (j i : Nat) (out : List St), i + j = kids.length → out ≠ [] → RwS s.length x.1 out →
  lim Try.prog cfg (.loop 67 0 (wdc 1) (SE (EJ 158 G0) [(110, .int .i64 i), (109, .int .i64 kids.length), (108, FL kids.length (rxsC kids)), (11, .pointer (some ⟨2, 0, none⟩)), (5, .pointer (some ⟨1, 0, none⟩)), (3, .pointer (some ⟨0, 0, none⟩))])) (HP (afC s bol x out)) = some (.code (.exit 3) (SE (EJ 158 G0) [(11, .pointer (some ⟨0, 0, none⟩))]), HP (rowC (altF s bol (kids.drop i) x out))) := by
 intro j
 induction j with
 | zero =>
  intro i out hi ho hr
  rw [List.drop_of_length_le (by omega), altF]
  refine web wzf ?_
  unfold wsg
  clear hk
  (repeat' (first | (simp -implicitDefEqProofs (maxSteps := 2000000) (disch := first | with_reducible assumption | omega | (simp only [zS, zA, seval, wy, zD] <;> omega) | fail) only [zS, argl, insA, Go.Den.wm, wo, wu, looks, wab, wz, idOf, riA, seval, Go.Den.wh, kK, wof, wy, *, zT]) | (with_reducible (first | apply z1 | apply z2 | apply z3 | apply z4) <;> intro hq <;> (try simp only [zH] at hq) <;> (try (exfalso; omega)))))
 | succ j ih =>
  intro i out hi ho hr
  rw [wlib kids (by omega), altF]
  have ⟨h1, h4⟩ := hk _ (warb kids (show i < kids.length by omega)) x hx
  have h3 := hr.add h1.good
  have h5 := row_len h1 hs
  have hadd := wxu out (wcg s bol (kids.getD i Rx.zero) x) ho (by omega) (by have := row_len h3 hs; omega)
  have h2 := ih (i + 1) _ (by omega) (wyl (.inl ho)) h3
  refine web wzf ?_
  unfold wsg
  clear ih hk h3 h1 hr
  (repeat' (first | (simp -implicitDefEqProofs (maxSteps := 2000000) (disch := first | with_reducible assumption | omega | (simp only [zS, zA, seval, wy, wjb, zD] <;> omega) | fail) only [zS, argl, insA, Go.Den.wm, wo, wu, looks, wab, wz, idOf, riA, seval, Go.Den.wh, kK, wof, wy, wjb, *, zT]) | (with_reducible (first | apply z1 | apply z2 | apply z3 | apply z4) <;> intro hq <;> (try simp only [zH] at hq) <;> (try (exfalso; omega)))))
  exact h2
set_option maxHeartbeats 4000000 in
theorem wojc (hs : s.length ≤ 12) (x : St) (hx : GdS s.length x) (kids : List Rx) (hll : kids.length ≤ 16000000) (hk : wmmb s bol kids) :
  ∀ (j i : Nat), i + j = kids.length →
  lim Try.prog cfg (.loop 67 0 (wdc 1) (SE (EJ 158 G0) [(110, .int .i64 i), (109, .int .i64 kids.length), (108, FL kids.length (rxsC kids)), (11, .pointer (some ⟨2, 0, none⟩)), (5, .pointer (some ⟨1, 0, none⟩)), (3, .pointer (some ⟨0, 0, none⟩))])) (HP (afN s bol x)) = some (.code (.exit 3) (SE (EJ 158 G0) [(11, .pointer (some ⟨0, 0, none⟩))]), HP (rowO (altF s bol (kids.drop i) x []))) := by
 intro j
 induction j with
 | zero =>
  intro i hi
  rw [List.drop_of_length_le (by omega), altF]
  refine web wzf ?_
  unfold wsg
  clear hk
  (repeat' (first | (simp -implicitDefEqProofs (maxSteps := 2000000) (disch := first | with_reducible assumption | omega | (simp only [zS, zA, seval, wy, zD] <;> omega) | fail) only [zS, argl, insA, Go.Den.wm, wo, wu, looks, wab, wz, idOf, riA, seval, Go.Den.wh, kK, wof, wy, *, zT]) | (with_reducible (first | apply z1 | apply z2 | apply z3 | apply z4) <;> intro hq <;> (try simp only [zH] at hq) <;> (try (exfalso; omega)))))
  all_goals rfl
 | succ j ih =>
  intro i hi
  rw [wlib kids (by omega), altF]
  have ⟨h1, h4⟩ := hk _ (warb kids (show i < kids.length by omega)) x hx
  have h3 := (RwS.nil (len := s.length) (a := x.1)).add h1.good
  have h5 := row_len h1 hs
  by_cases hz : wcg s bol (kids.getD i Rx.zero) x = []
  ·have h2 := ih (i + 1) (by omega)
   rw [hz] at h4 ⊢
   rw [List.length_nil, wfib] at h4
   refine web wzf ?_
   unfold wsg
   clear ih hk h3 h1 h5 hz
   (repeat' (first | (simp -implicitDefEqProofs (maxSteps := 2000000) (disch := first | with_reducible assumption | omega | (simp only [zS, zA, seval, wy, wjb, zD] <;> omega) | fail) only [zS, argl, insA, Go.Den.wm, wo, wu, looks, wab, wz, idOf, riA, seval, Go.Den.wh, kK, wof, wy, wjb, wptb, *, zT]) | (with_reducible (first | apply z1 | apply z2 | apply z3 | apply z4) <;> intro hq <;> (try simp only [zH] at hq) <;> (try (exfalso; omega)))))
   exact h2
  ·have hadd := wgy (wcg s bol (kids.getD i Rx.zero) x) hz (by omega) (by have := row_len h3 hs; omega)
   have h2 := wnjc s bol hs x hx kids hll hk j (i + 1) (addF [] (wcg s bol (kids.getD i Rx.zero) x)) (by omega) (wyl (.inr hz)) h3
   rw [rowO, if_neg (altF_ne s bol _ _ (wyl (.inr hz)))]
   refine web wzf ?_
   unfold wsg
   clear ih hk h3 h1
   (repeat' (first | (simp -implicitDefEqProofs (maxSteps := 2000000) (disch := first | with_reducible assumption | omega | (simp only [zS, zA, seval, wy, wjb, zD] <;> omega) | fail) only [zS, argl, insA, Go.Den.wm, wo, wu, looks, wab, wz, idOf, riA, seval, Go.Den.wh, kK, wof, wy, wjb, *, zT]) | (with_reducible (first | apply z1 | apply z2 | apply z3 | apply z4) <;> intro hq <;> (try simp only [zH] at hq) <;> (try (exfalso; omega)))))
   exact h2
set_option maxHeartbeats 4000000 in
theorem cat_loop (hs : s.length ≤ 12) (a : Int) (kids : List Rx) (hll : kids.length ≤ 16000000) (hk : wmmb s bol kids) :
  ∀ (j i : Nat) (l : List St), i + j = kids.length → RwS s.length a l →
  lim Try.prog cfg (.loop 67 0 (wdc 2) (SE (EJ 158 G0) [(130, .int .i64 i), (129, .int .i64 kids.length), (128, FL kids.length (rxsC kids)), (7, FL l.length (stsC l)), (3, .pointer (some ⟨0, 0, none⟩))])) (HP [X [str s, .bool bol] 129 0 true]) = some (.code (.exit 5) (SE (EJ 158 G0) [(7, FL (catF s bol (kids.drop i) l).length (stsC (catF s bol (kids.drop i) l)))]), HP []) := by
 intro j
 induction j with
 | zero =>
  intro i l hi hr
  rw [List.drop_of_length_le (by omega), catF]
  refine web wei ?_
  unfold wdi
  clear hk
  (repeat' (first | (simp -implicitDefEqProofs (maxSteps := 2000000) (disch := first | with_reducible assumption | omega | (simp only [zS, zA, seval, wy, zD] <;> omega) | fail) only [zS, argl, insA, Go.Den.wm, wo, wu, looks, wab, wz, idOf, riA, seval, Go.Den.wh, kK, wvg, wy, *, zT]) | (with_reducible (first | apply z1 | apply z2 | apply z3 | apply z4) <;> intro hq <;> (try simp only [zH] at hq) <;> (try (exfalso; omega)))))
 | succ j ih =>
  intro i l hi hr
  rw [wlib kids (by omega), catF]
  have hw := hk _ (warb kids (show i < kids.length by omega))
  have hf := whjc s hs bol (kids.getD i Rx.zero) (fun y => wcg s bol (kids.getD i Rx.zero) y) a l (by have := row_len hr hs; omega) hr.good hw
  have h3 : RwS s.length a (wimb (fun y => wcg s bol (kids.getD i Rx.zero) y) l) := by
   refine RwS.fold _ l (fun z hz y hy => ?_) [] .nil
   have h1 := hr.good z hz
   have h2 := (hw z h1.1).1.good y hy
   exact ⟨h2.1, by omega⟩
  have h2 := ih (i + 1) _ (by omega) h3
  generalize wimb (fun y => wcg s bol (kids.getD i Rx.zero) y) l = l2 at hf h2 ⊢
  refine web wei ?_
  unfold wdi
  clear ih hk hw h3
  (repeat' (first | (simp -implicitDefEqProofs (maxSteps := 2000000) (disch := first | with_reducible assumption | omega | (simp only [zS, zA, seval, wy, wjb, zD] <;> omega) | fail) only [zS, argl, insA, Go.Den.wm, wo, wu, looks, wab, wz, idOf, riA, seval, Go.Den.wh, kK, wvg, wy, wjb, *, zT]) | (with_reducible (first | apply z1 | apply z2 | apply z3 | apply z4) <;> intro hq <;> (try simp only [zH] at hq) <;> (try (exfalso; omega)))))
  exact h2
end
end
end Go.Proofs.Ytjihbfdbgamcdaa
