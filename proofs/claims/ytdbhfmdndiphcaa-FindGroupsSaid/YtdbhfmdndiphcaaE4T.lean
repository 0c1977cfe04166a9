/-
  TYPED VALUES, as cells: matches, states, expressions, rows of them.
-/
import Derived.Test.YtdbhfmdndiphcaaE3V
import Derived.Test.YtdbhfmdndiphcaaE3W
import Derived.Test.YtdbhfmdndiphcaaE4M
namespace Go.Den
noncomputable section

/- LISTS OF CELLS -/

theorem over_all {l m : List Value} (h : m.length = l.length) : overwrite l 0 m = m := by
  have key : ∀ (m l : List Value) (a : List Value), m.length = l.length → overwrite (a ++ l) a.length m = a ++ m := by
    intro m
    induction m with
    | nil => intro l a h; have := List.eq_nil_of_length_eq_zero h.symm; subst this; rfl
    | cons v r ih =>
      intro l a h
      cases l with
      | nil => simp at h
      | cons w l =>
        simp only [List.length_cons, Nat.add_right_cancel_iff] at h
        show overwrite ((a ++ w :: l).set a.length v) (a.length + 1) r = _
        have e : (a ++ w :: l).set a.length v = (a ++ [v]) ++ l := by simp
        rw [e, show a.length + 1 = (a ++ [v]).length by simp, ih l (a ++ [v]) h]
        simp
  exact key m l [] h
theorem over_tail {a : Value} {l m : List Value} {k : Nat} : overwrite (a :: l) (k + 1) m = a :: overwrite l k m := by
  induction m generalizing l k with
  | nil => rfl
  | cons v r ih => show overwrite ((a :: l).set (k + 1) v) (k + 1 + 1) r = _; rw [List.set_cons_succ, ih]; rfl
theorem over_tail1 {a : Value} {l m : List Value} {k : Nat} : overwrite (a :: l) (1 + k) m = a :: overwrite l k m := by rw [Nat.add_comm]; exact over_tail
theorem over_nil {l : List Value} {k : Nat} : overwrite l k [] = l := rfl
theorem over_cons {l r : List Value} {k : Nat} {v : Value} : overwrite l k (v :: r) = overwrite (l.set k v) (k + 1) r := rfl
theorem slots_tail {a : Value} {l : List Value} {k n : Nat} : slotsOf (a :: l) (k + 1) n = slotsOf l k n := rfl
theorem slots_tail1 {a : Value} {l : List Value} {k n : Nat} : slotsOf (a :: l) (1 + k) n = slotsOf l k n := by rw [Nat.add_comm]; rfl
theorem slots_0 {a : Value} {l : List Value} {n : Nat} : slotsOf (a :: l) 0 (n + 1) = a :: slotsOf l 0 n := rfl
theorem slots_00 {l : List Value} {k : Nat} : slotsOf l k 0 = [] := by simp [slotsOf]
theorem get_tail1 {α : Type} {a : α} {l : List α} {k : Nat} : (a :: l)[1 + k]? = l[k]? := by rw [Nat.add_comm]; rfl
theorem set_tail1 {α : Type} {a b : α} {l : List α} {k : Nat} : (a :: l).set (1 + k) b = a :: l.set k b := by rw [Nat.add_comm]; rfl

theorem flat_len {α : Type} {enc : α → List Value} {k : Nat} (hk : ∀ a, (enc a).length = k) (l : List α) : (l.flatMap enc).length = l.length * k := by
  induction l with
  | nil => simp
  | cons a l ih => rw [List.flatMap_cons, List.length_append, hk, ih, List.length_cons, Nat.add_mul]; omega
theorem flat_slot {α : Type} {enc : α → List Value} {k : Nat} (hk : ∀ a, (enc a).length = k) (d : α) : ∀ (l : List α) (i : Nat), i < l.length → slotsOf (l.flatMap enc) (i * k) k = enc (l.getD i d) := by
  intro l
  induction l with
  | nil => intro i h; cases h
  | cons a l ih =>
    intro i h
    cases i with
    | zero =>
      rw [List.flatMap_cons, Nat.zero_mul]
      show ((enc a ++ l.flatMap enc).drop 0).take k = enc a
      rw [List.drop_zero, List.take_append_of_le_length (by rw [hk]; exact Nat.le_refl _), List.take_of_length_le (by rw [hk]; exact Nat.le_refl _)]
    | succ i =>
      have := ih i (by simpa using h)
      rw [show (a :: l).getD (i + 1) d = l.getD i d by simp, ← this, List.flatMap_cons]
      show ((enc a ++ l.flatMap enc).drop ((i + 1) * k)).take k = _
      rw [show (i + 1) * k = (enc a).length + i * k by rw [hk, Nat.add_mul]; omega, List.drop_append, List.drop_of_length_le (by omega), List.nil_append]
      congr 2
      omega
theorem flat_atom {α : Type} {enc : α → List Value} (hk : ∀ a, atomL (enc a) = true) (l : List α) : atomL (l.flatMap enc) = true := by
  induction l with
  | nil => rfl
  | cons a l ih => rw [List.flatMap_cons, atomL_append, hk, ih]; rfl

/- MATCHES, STATES -/

/-- A match's numbers. -/
abbrev Mt := { l : List Int // l.length = 8 }
def mtC (m : Mt) : List Value := m.1.map (Value.int .i64)
def Mt.at (m : Mt) (i : Nat) : Int := m.1.getD i 0
def Mt.put (m : Mt) (i : Nat) (a : Int) : Mt := ⟨m.1.set i a, by rw [List.length_set]; exact m.2⟩
theorem mt_len {m : Mt} : (mtC m).length = 8 := by rw [mtC, List.length_map, m.2]
theorem mt_get {m : Mt} {i : Nat} (h : i < 8) : (mtC m)[i]? = some (.int .i64 (m.at i)) := by
  rw [mtC, List.getElem?_map, Mt.at, List.getD_eq_getElem?_getD, List.getElem?_eq_getElem (by rw [m.2]; exact h)]
  rfl
theorem mt_set {m : Mt} {i : Nat} {a : Int} : (mtC m).set i (.int .i64 a) = mtC (m.put i a) := by
  rw [mtC, mtC, Mt.put, List.map_set]
theorem mt_atom {m : Mt} : atomL (mtC m) = true := by
  rw [atomL_iff]
  intro v hv
  simp only [mtC, List.mem_map] at hv
  obtain ⟨x, _, rfl⟩ := hv
  rfl
theorem mt_slots2 {m : Mt} {i : Nat} (h : i + 2 ≤ 8) : slotsOf (mtC m) i 2 = [.int .i64 (m.at i), .int .i64 (m.at (i + 1))] := by
  apply List.ext_getElem?
  intro j
  rw [slotsOf, List.getElem?_take]
  split
  · rw [List.getElem?_drop]
    rcases (show j = 0 ∨ j = 1 by omega) with rfl | rfl
    · rw [mt_get (by omega)]; rfl
    · rw [mt_get (by omega)]; rfl
  · match j with
    | 0 => omega
    | 1 => omega
    | j + 2 => rfl
theorem mt_slots8 {m : Mt} : slotsOf (mtC m) 0 8 = mtC m := slots_all mt_len
theorem flatL_ints (l : List Int) : flatL (l.map (Value.int .i64)) = true := by
  induction l with
  | nil => rfl
  | cons a l ih => rw [List.map_cons, flatL_cons, ih]; rfl
theorem mt_flat {m : Mt} : flatL (mtC m) = true := flatL_ints _
theorem mt_fz (m : Mt) : FzL (mtC m) := fzl mt_atom
theorem ints_eq : ∀ (a b : List Int), a.length = b.length → (eqL (a.map (Value.int .i64)) (b.map (Value.int .i64)) = true ↔ a = b) := by
  intro a
  induction a with
  | nil => intro b h; cases b with | nil => simp [eqL] | cons x b => cases h
  | cons x a ih =>
    intro b h
    cases b with
    | nil => cases h
    | cons y b =>
      simp only [List.length_cons, Nat.add_right_cancel_iff] at h
      simp only [List.map_cons, eqL, atomEq, Bool.and_eq_true, beq_iff_eq, ih b h, List.cons.injEq]
theorem fits_ints : ∀ (a : List Int), fitsL (List.replicate a.length (AK.int .i64)) (a.map (Value.int .i64)) = true := by
  intro a
  induction a with
  | nil => rfl
  | cons x a ih => simp only [List.length_cons, List.replicate_succ, List.map_cons, fitsL, ih]; rfl
theorem mt_fits {m : Mt} : fitsL [.int .i64, .int .i64, .int .i64, .int .i64, .int .i64, .int .i64, .int .i64, .int .i64] (mtC m) = true := by
  have := fits_ints m.1
  rw [m.2] at this
  exact this
theorem mt_eqL {m n : Mt} : eqL (mtC m) (mtC n) = decide (m = n) := by
  have h := ints_eq m.1 n.1 (by rw [m.2, n.2])
  by_cases hq : m = n
  · rw [decide_eq_true hq]; exact h.2 (by rw [hq])
  · rw [decide_eq_false hq]
    cases he : eqL (mtC m) (mtC n) with
    | false => rfl
    | true => exact absurd (Subtype.ext (h.1 he)) hq

/-- A state: where, and the match. -/
abbrev St := Int × Mt
def Mt.zero : Mt := ⟨[0, 0, 0, 0, 0, 0, 0, 0], rfl⟩
def St.zero : St := (0, Mt.zero)
def stC (s : St) : List Value := .int .i64 s.1 :: mtC s.2
theorem st_len {s : St} : (stC s).length = 9 := by rw [stC, List.length_cons, mt_len]
theorem st_atom {s : St} : atomL (stC s) = true := by rw [stC, atomL_cons, mt_atom]; rfl
theorem st_fz (s : St) : FzL (stC s) := fzl st_atom
theorem st_flat {s : St} : flatL (stC s) = true := by rw [stC, flatL_cons, mt_flat]; rfl
theorem st_slots9 {s : St} : slotsOf (stC s) 0 9 = stC s := slots_all st_len
theorem st_get0 {s : St} : (stC s)[0]? = some (.int .i64 s.1) := rfl
theorem st_get1 {s : St} {k : Nat} : (stC s)[1 + k]? = (mtC s.2)[k]? := by rw [Nat.add_comm]; rfl
theorem st_slots8 {s : St} : slotsOf (stC s) 1 8 = mtC s.2 := mt_slots8
theorem st_set0 {s : St} {a : Int} : (stC s).set 0 (.int .i64 a) = stC (a, s.2) := rfl
theorem st_over1 {s : St} {k : Nat} {m : List Value} : overwrite (stC s) (1 + k) m = .int .i64 s.1 :: overwrite (mtC s.2) k m := over_tail1
theorem st_over8 {s : St} {m : Mt} : overwrite (stC s) 1 (mtC m) = stC (s.1, m) := by
  show overwrite (_ :: mtC s.2) (0 + 1) (mtC m) = _
  rw [over_tail, over_all (by rw [mt_len, mt_len])]
  rfl
theorem st_fold {a : Int} {m : Mt} : (Value.int .i64 a :: mtC m) = stC (a, m) := rfl
theorem st_fits {s : St} : fitsL [.int .i64, .int .i64, .int .i64, .int .i64, .int .i64, .int .i64, .int .i64, .int .i64, .int .i64] (stC s) = true := by
  rw [stC]; show (true && fitsL _ (mtC s.2)) = true; rw [mt_fits]; rfl
theorem st_eqL {s t : St} : eqL (stC s) (stC t) = decide (s = t) := by
  obtain ⟨a, m⟩ := s
  obtain ⟨b, n⟩ := t
  show ((a == b) && eqL (mtC m) (mtC n)) = _
  rw [mt_eqL]
  by_cases h1 : a = b <;> by_cases h2 : m = n <;> simp [h1, h2]

def stsC (l : List St) : List Value := l.flatMap stC
theorem sts_len {l : List St} : (stsC l).length = l.length * 9 := flat_len (fun _ => st_len) l
theorem sts_slot {l : List St} {i : Nat} (h : i < l.length) : slotsOf (stsC l) (i * 9) 9 = stC (l.getD i St.zero) := flat_slot (fun _ => st_len) St.zero l i h
theorem sts_atom {l : List St} : atomL (stsC l) = true := flat_atom (fun _ => st_atom) l
theorem sts_fz (l : List St) : FzL (stsC l) := fzl sts_atom
theorem sts_nil : stsC [] = [] := rfl
theorem sts_app {l m : List St} : stsC l ++ stsC m = stsC (l ++ m) := by rw [stsC, stsC, stsC, List.flatMap_append]
theorem sts_snoc {l : List St} {s : St} : stsC (l ++ [s]) = stsC l ++ stC s := by rw [stsC, stsC, List.flatMap_append]; simp
theorem sts_one {s : St} : stC s = stsC [s] := by rw [stsC]; simp

def mtsC (l : List Mt) : List Value := l.flatMap mtC
theorem mts_len {l : List Mt} : (mtsC l).length = l.length * 8 := flat_len (fun _ => mt_len) l
theorem mts_slot {l : List Mt} {i : Nat} (h : i < l.length) : slotsOf (mtsC l) (i * 8) 8 = mtC (l.getD i Mt.zero) := flat_slot (fun _ => mt_len) _ l i h
theorem mts_atom {l : List Mt} : atomL (mtsC l) = true := flat_atom (fun _ => mt_atom) l
theorem mts_fz (l : List Mt) : FzL (mtsC l) := fzl mts_atom
theorem mts_app {l m : List Mt} : mtsC l ++ mtsC m = mtsC (l ++ m) := by rw [mtsC, mtsC, mtsC, List.flatMap_append]
theorem mts_one {s : Mt} : mtC s = mtsC [s] := by rw [mtsC]; simp

/- EXPRESSIONS -/

inductive Rx where
  | mk (kind min max n : Int) (set : BitVec 256) (kids : List Rx)

def Rx.kind : Rx → Int | .mk k _ _ _ _ _ => k
def Rx.mn : Rx → Int | .mk _ k _ _ _ _ => k
def Rx.mx : Rx → Int | .mk _ _ k _ _ _ => k
def Rx.n : Rx → Int | .mk _ _ _ k _ _ => k
def Rx.set : Rx → BitVec 256 | .mk _ _ _ _ s _ => s
def Rx.kids : Rx → List Rx | .mk _ _ _ _ _ l => l
def Rx.zero : Rx := .mk 0 0 0 0 0#256 []
theorem rx_kind {k a b c s l} : Rx.kind (.mk k a b c s l) = k := rfl
theorem rx_mn {k a b c s l} : Rx.mn (.mk k a b c s l) = a := rfl
theorem rx_mx {k a b c s l} : Rx.mx (.mk k a b c s l) = b := rfl
theorem rx_n {k a b c s l} : Rx.n (.mk k a b c s l) = c := rfl
theorem rx_set {k a b c s l} : Rx.set (.mk k a b c s l) = s := rfl
theorem rx_kids {k a b c s l} : Rx.kids (.mk k a b c s l) = l := rfl

mutual
def rxC : Rx → List Value
  | .mk k a b c s l => [.int .i64 k, .int .i64 a, .int .i64 b, .int .i64 c, wdV s 0, wdV s 1, wdV s 2, wdV s 3, FL l.length (rxsC l)]
def rxsC : List Rx → List Value
  | [] => []
  | r :: l => rxC r ++ rxsC l
end

theorem rx_eq {r : Rx} : rxC r = [.int .i64 r.kind, .int .i64 r.mn, .int .i64 r.mx, .int .i64 r.n, wdV r.set 0, wdV r.set 1, wdV r.set 2, wdV r.set 3, FL r.kids.length (rxsC r.kids)] := by
  cases r; rw [rxC]; rfl
theorem rxs_flat (l : List Rx) : rxsC l = l.flatMap rxC := by
  induction l with
  | nil => rw [rxsC]; rfl
  | cons r l ih => rw [rxsC, ih, List.flatMap_cons]
theorem rx_len {r : Rx} : (rxC r).length = 9 := by rw [rx_eq]; rfl
theorem rx_atom {r : Rx} : atomL (rxC r) = true := by rw [rx_eq]; rfl
theorem rx_fz (r : Rx) : FzL (rxC r) := fzl rx_atom
theorem rx_get0 {r : Rx} : (rxC r)[0]? = some (.int .i64 r.kind) := by rw [rx_eq]; rfl
theorem rx_get1 {r : Rx} : (rxC r)[1]? = some (.int .i64 r.mn) := by rw [rx_eq]; rfl
theorem rx_get2 {r : Rx} : (rxC r)[2]? = some (.int .i64 r.mx) := by rw [rx_eq]; rfl
theorem rx_get3 {r : Rx} : (rxC r)[3]? = some (.int .i64 r.n) := by rw [rx_eq]; rfl
theorem rx_get8 {r : Rx} : (rxC r)[8]? = some (FL r.kids.length (rxsC r.kids)) := by rw [rx_eq]; rfl
theorem rx_slots4 {r : Rx} : slotsOf (rxC r) 4 4 = setC r.set := by rw [rx_eq]; rfl
theorem rx_slots9 {r : Rx} : slotsOf (rxC r) 0 9 = rxC r := slots_all rx_len
theorem rx_lit {k a b c : Int} {s : BitVec 256} {l : List Rx} : [Value.int .i64 k, .int .i64 a, .int .i64 b, .int .i64 c, wdV s 0, wdV s 1, wdV s 2, wdV s 3, FL l.length (rxsC l)] = rxC (.mk k a b c s l) := by rw [rxC]
theorem rxs_len {l : List Rx} : (rxsC l).length = l.length * 9 := by rw [rxs_flat]; exact flat_len (fun _ => rx_len) l
theorem rxs_slot {l : List Rx} {i : Nat} (h : i < l.length) : slotsOf (rxsC l) (i * 9) 9 = rxC (l.getD i Rx.zero) := by rw [rxs_flat]; exact flat_slot (fun _ => rx_len) _ l i h
theorem rxs_atom {l : List Rx} : atomL (rxsC l) = true := by rw [rxs_flat]; exact flat_atom (fun _ => rx_atom) l

theorem rxs_fz (l : List Rx) : FzL (rxsC l) := fzl rxs_atom
theorem set_atom {s : BitVec 256} : atomL (setC s) = true := rfl
theorem set_fz (s : BitVec 256) : FzL (setC s) := fzl set_atom
theorem set_flat {s : BitVec 256} : flatL (setC s) = true := rfl

end
end Go.Den
