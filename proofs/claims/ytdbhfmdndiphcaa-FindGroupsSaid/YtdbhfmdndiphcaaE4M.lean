/-
  THE ENGINE FOR UNKNOWN VALUES, part M: frames of loops, heaps of what is met, sealing, calls, what is handed back: as rules.
-/
import Derived.Test.YtdbhfmdndiphcaaE3H
import Derived.Test.YtdbhfmdndiphcaaE4L
namespace Go.Den
noncomputable section

variable {P : Program} {cfg : Cfg} {R : Type}

/- VALUES WITHOUT PARTS -/

/-- Of one cell, frozen. -/
def atomV : Value → Bool
  | .int _ _ | .bool _ | .string _ | .float _ _ | .complex _ _ _ | .nilFunc | .nilIface | .pointer none | .map none => true
  | .func (.yield _) ⟨_⟩ ⟨[]⟩ => true
  | .func (.yield _) ⟨_⟩ ⟨[.bool true]⟩ => true
  | _ => false

def atomL : List Value → Bool
  | [] => true
  | v :: r => atomV v && atomL r

theorem atomL_nil : atomL [] = true := rfl
theorem atomL_cons {v : Value} {r : List Value} : atomL (v :: r) = (atomV v && atomL r) := rfl
theorem atomL_append {a b : List Value} : atomL (a ++ b) = (atomL a && atomL b) := by
  induction a with
  | nil => rfl
  | cons v r ih => simp only [List.cons_append, atomL, ih, Bool.and_assoc]
theorem atomL_iff {l : List Value} : atomL l = true ↔ ∀ v ∈ l, atomV v = true := by
  induction l with
  | nil => simp [atomL]
  | cons a l ih => simp [atomL, ih]
theorem atom_int {k : IntKind} {n : Int} : atomV (.int k n) = true := rfl
theorem atom_bool {b : Bool} : atomV (.bool b) = true := rfl
theorem atom_string {s : ByteArray} : atomV (.string s) = true := rfl
theorem atom_FL {n : Nat} {cs : List Value} : atomV (FL n cs) = true := rfl
theorem atom_FP {n : Nat} {cs : List Value} : atomV (FP n cs) = true := rfl
theorem atom_nilP : atomV (.pointer none) = true := rfl
theorem atom_nilF : atomV .nilFunc = true := rfl
theorem atom_nilI : atomV .nilIface = true := rfl

structure AtomOk (v : Value) : Prop where
  refs : refs v = []
  toks : toks v = []
  no : noRefs v = true
  ren : ∀ m, renV m v = v
  sld : ∀ (P : Program) (H : AH) (sl : List Value → Option (List Value × Frs)), sealV1 P H sl v = some (v, [])
  one : oneCell v = true
  nf : nfV v = v
  jk : isJK v = false
  cells : v.cells = ⟨[v]⟩

theorem atom_ok {v : Value} (h : atomV v = true) : AtomOk v := by
  unfold atomV at h
  split at h <;> first
    | exact ⟨rfl, rfl, rfl, fun _ => rfl, fun _ _ _ => rfl, rfl, rfl, rfl, rfl⟩
    | (exact ⟨rfl, rfl, rfl, fun _ => rfl, fun _ _ _ => rfl, oneCell_FL, rfl, isJK_FL, rfl⟩)
    | (refine ⟨rfl, rfl, rfl, fun _ => rfl, fun _ _ _ => rfl, ?_, rfl, ?_, rfl⟩ <;> first | rfl | (unfold isJK; split <;> simp_all) | (exact oneCell_of (fun _ h => by cases h) (fun _ h => by cases h) (by unfold isJK; split <;> simp_all)))
    | cases h

theorem refsL_atom {l : List Value} (h : atomL l = true) : refsL l = [] := by
  induction l with
  | nil => rfl
  | cons v r ih => simp only [atomL, Bool.and_eq_true] at h; simp only [refsL, (atom_ok h.1).refs, ih h.2, List.append_nil]
theorem toksL_atom {l : List Value} (h : atomL l = true) : toksL l = [] := by
  induction l with
  | nil => rfl
  | cons v r ih => simp only [atomL, Bool.and_eq_true] at h; simp only [toksL, (atom_ok h.1).toks, ih h.2, List.append_nil]
theorem noRefsL_atom {l : List Value} (h : atomL l = true) : noRefsL l = true := by
  induction l with
  | nil => rfl
  | cons v r ih => simp only [atomL, Bool.and_eq_true] at h; simp only [noRefsL, (atom_ok h.1).no, ih h.2, Bool.and_self]
theorem renVL_atom {l : List Value} (h : atomL l = true) {m : Nm} : renVL m l = l := by
  induction l with
  | nil => rfl
  | cons v r ih => simp only [atomL, Bool.and_eq_true] at h; simp only [renVL, (atom_ok h.1).ren, ih h.2]
theorem sealL_atom {l : List Value} (h : atomL l = true) {H : AH} {d : Nat} : sealL P H (d + 1) l = some (l, []) := by
  induction l with
  | nil => rfl
  | cons v r ih => simp only [atomL, Bool.and_eq_true] at h; rw [sealL_cons, (atom_ok h.1).sld, ih h.2]; rfl
theorem oneL_atom {l : List Value} (h : atomL l = true) : l.all oneCell = true := by
  induction l with
  | nil => rfl
  | cons v r ih => simp only [atomL, Bool.and_eq_true] at h; simp only [List.all_cons, (atom_ok h.1).one, ih h.2, Bool.and_self]
theorem nfL_atom {l : List Value} (h : atomL l = true) : nfL l = l := by
  induction l with
  | nil => rfl
  | cons v r ih => simp only [atomL, Bool.and_eq_true] at h; simp only [nfL, (atom_ok h.1).nf, ih h.2]
/- SEALING -/

theorem sealL_nil' {H : AH} {d : Nat} : sealL P H (d + 1) [] = some ([], []) := rfl
theorem sealL_cons' {H : AH} {d : Nat} {v : Value} {l : List Value} : sealL P H (d + 1) (v :: l) = sealC (one2 (sealV1 P H (sealL P H d) v)) (sealL P H (d + 1) l) := rfl
theorem sealC_some {a b : List Value} {f g : Frs} : sealC (some (a, f)) (some (b, g)) = some (a ++ b, f ++ g) := rfl
theorem one2_some {v : Value} {f : Frs} : one2 (some (v, f)) = some ([v], f) := rfl
section
variable {H : AH} {sl : List Value → Option (List Value × Frs)}
theorem seal_int {k : IntKind} {n : Int} : sealV1 P H sl (.int k n) = some (.int k n, []) := rfl
theorem seal_bool {b : Bool} : sealV1 P H sl (.bool b) = some (.bool b, []) := rfl
theorem seal_string {s : ByteArray} : sealV1 P H sl (.string s) = some (.string s, []) := rfl
theorem seal_complex {k : FloatKind} {a b : Nat} : sealV1 P H sl (.complex k a b) = some (.complex k a b, []) := rfl
theorem seal_FL {n : Nat} {cs : List Value} : sealV1 P H sl (FL n cs) = some (FL n cs, []) := rfl
theorem seal_FO {t n : Nat} {cs : List Value} : sealV1 P H sl (FO t n cs) = some (FL n cs, []) := rfl
theorem seal_FP {n : Nat} {cs : List Value} : sealV1 P H sl (FP n cs) = some (FP n cs, []) := rfl
theorem seal_nilS : sealV1 P H sl (.slice none 0 0) = some (FL 0 [], []) := rfl
theorem seal_noS {a : Addr} {c : Nat} : sealV1 P H sl (.slice (some a) 0 c) = some (FL 0 [], []) := rfl
theorem seal_ptr {a : Option Addr} : sealV1 P H sl (.pointer a) = some (.pointer a, []) := rfl
theorem seal_map {a : Option Nat} : sealV1 P H sl (.map a) = some (.map a, []) := rfl
theorem seal_nilF : sealV1 P H sl .nilFunc = some (.nilFunc, []) := rfl
theorem seal_nilI : sealV1 P H sl .nilIface = some (.nilIface, []) := rfl
def aggO : Option (List Value × Frs) → Option (Value × Frs)
  | some (l, f) => some (.agg ⟨l⟩, f)
  | none => none
def tupO : Option (List Value × Frs) → Option (Value × Frs)
  | some (l, f) => some (.tuple ⟨l⟩, f)
  | none => none
def funO (g : FuncId) : Option (List Value × Frs) → Option (List Value × Frs) → Option (Value × Frs)
  | some (a, p), some (b, q) => some (.func (.func g) ⟨a⟩ ⟨b⟩, p ++ q)
  | _, _ => none
theorem seal_agg {cs : List Value} : sealV1 P H sl (.agg ⟨cs⟩) = aggO (sl cs) := rfl
theorem seal_tuple {cs : List Value} : sealV1 P H sl (.tuple ⟨cs⟩) = tupO (sl cs) := rfl
theorem seal_func {g : FuncId} {f c : List Value} : sealV1 P H sl (.func (.func g) ⟨f⟩ ⟨c⟩) = funO g (sl f) (sl c) := by
  show (match sl f, sl c with | some (a, p), some (b, q) => some (Value.func (.func g) ⟨a⟩ ⟨b⟩, p ++ q) | _, _ => none) = _
  cases sl f <;> cases sl c <;> rfl
theorem aggO_some {l : List Value} {f : Frs} : aggO (some (l, f)) = some (.agg ⟨l⟩, f) := rfl
theorem tupO_some {l : List Value} {f : Frs} : tupO (some (l, f)) = some (.tuple ⟨l⟩, f) := rfl
theorem funO_some {g : FuncId} {a b : List Value} {p q : Frs} : funO g (some (a, p)) (some (b, q)) = some (.func (.func g) ⟨a⟩ ⟨b⟩, p ++ q) := rfl
end

/-- A row of the caller's. -/
def rowS (P : Program) (i n c : Nat) : Option ABlk → Option (Value × Frs)
  | some (.cells b) => bif Nat.ble n c && (isNil b.lens && (b.pf && (Nat.blt 0 (tsz P b.elem) && Nat.ble (n * tsz P b.elem) b.cells.length))) then (bif noRefsL (slotsOf b.cells 0 (n * tsz P b.elem)) then some (FL n (slotsOf b.cells 0 (n * tsz P b.elem)), [(i, n * tsz P b.elem)]) else none) else none
  | _ => none

theorem rowS_X {i n c : Nat} {cs : List Value} {elem : TypeId} {frz : Nat} : rowS P i n c (some (X cs elem frz true)) = bif Nat.ble n c && (Nat.blt 0 (tsz P elem) && Nat.ble (n * tsz P elem) cs.length) then (bif noRefsL (slotsOf cs 0 (n * tsz P elem)) then some (FL n (slotsOf cs 0 (n * tsz P elem)), [(i, n * tsz P elem)]) else none) else none := rfl

/-- Sealing a row, where the heap is known; by the row's own block. -/
theorem seal_rowH {h : List ABlk} (hh : h.length ≤ 1099511627774) {i n c : Nat} {cs : List Value} {elem : TypeId} {frz : Nat} {sl : List Value → Option (List Value × Frs)} (hb : h[i]? = some (X cs elem frz true))
    (h1 : n + 1 ≤ c) (h0 : 0 < tsz P elem) (hl : (n + 1) * tsz P elem ≤ cs.length) (hr : noRefsL (slotsOf cs 0 ((n + 1) * tsz P elem)) = true) :
    sealV1 P (HP h) sl (.slice (some ⟨i, 0, none⟩) (n + 1) (c + 1)) = some (FL (n + 1) (slotsOf cs 0 ((n + 1) * tsz P elem)), [(i, (n + 1) * tsz P elem)]) :=
  seal_rowX hh hb rfl h0 h1 hl hr sl

/- FRAMES -/

/-- A frame where nothing is known. -/
def EJ (n : Nat) (g : (Nat → Option (List Value)) × Bool) : Env := ⟨n, junkL n .leaf, g⟩
theorem EJ_n {n : Nat} {g : (Nat → Option (List Value)) × Bool} : (EJ n g).n = n := rfl
theorem EJ_g {n : Nat} {g : (Nat → Option (List Value)) × Bool} : (EJ n g).g = g := rfl

/-- What a temporary holds. -/
def lkE (b : Env) : List (Nat × Value) → Nat → Value
  | [], j => b.get j
  | (k, v) :: l, j => if j = k then (if k < b.n then v else lkE b l j) else lkE b l j
theorem lkE_nil {b : Env} {j : Nat} : lkE b [] j = b.get j := rfl
def lkH (q : Bool) (v : Value) (b : Env) (l : List (Nat × Value)) (j : Nat) : Value := bif q then v else lkE b l j
def lkB (q : Bool) (k : Nat) (v : Value) (b : Env) (l : List (Nat × Value)) (j : Nat) : Value := bif q then lkH (Nat.blt k b.n) v b l j else lkE b l j
theorem lkE_cons {b : Env} {k j : Nat} {v : Value} {l : List (Nat × Value)} : lkE b ((k, v) :: l) j = lkB (Nat.beq j k) k v b l j := by
  rw [nbeq]
  show (if j = k then (if k < b.n then v else lkE b l j) else lkE b l j) = (bif decide (j = k) then (bif Nat.blt k b.n then v else lkE b l j) else lkE b l j)
  rw [nblt]
  by_cases h1 : j = k <;> by_cases h2 : k < b.n <;> simp [h1, h2]
theorem lkB_true {k j : Nat} {v : Value} {b : Env} {l : List (Nat × Value)} : lkB true k v b l j = lkH (Nat.blt k b.n) v b l j := rfl
theorem lkB_false {k j : Nat} {v : Value} {b : Env} {l : List (Nat × Value)} : lkB false k v b l j = lkE b l j := rfl
theorem lkH_true {j : Nat} {v : Value} {b : Env} {l : List (Nat × Value)} : lkH true v b l j = v := rfl
theorem SE_look {b : Env} {l : List (Nat × Value)} {j : Nat} (hn : b.n ≤ 1099511627774) : (SE b l).get j = lkE b l j := by
  induction l with
  | nil => rfl
  | cons p l ih =>
    obtain ⟨k, v⟩ := p
    show ((SE b l).put (some k) v).get j = (if j = k then (if k < b.n then v else lkE b l j) else lkE b l j)
    rw [get_put_env _ _ _ (by rw [SE_n]; exact hn), SE_n, ← ih]
    by_cases h1 : j = k <;> by_cases h2 : k < b.n <;> simp [h1, h2]

theorem look_E0 {n : Nat} {g : (Nat → Option (List Value)) × Bool} {l : List (Nat × Value)} {j : Nat} (hn : n ≤ 1099511627774) : (SE (E0 n g) l).get j = lkE (E0 n g) l j := SE_look hn
theorem look_EJ {n : Nat} {g : (Nat → Option (List Value)) × Bool} {l : List (Nat × Value)} {j : Nat} (hn : n ≤ 1099511627774) : (SE (EJ n g) l).get j = lkE (EJ n g) l j := SE_look hn

def zipR : List Nat → List Value → List (Nat × Value) → List (Nat × Value)
  | k :: r, v :: s, acc => zipR r s ((k, v) :: acc)
  | _, _, acc => acc
theorem zipR_nil {acc : List (Nat × Value)} : zipR [] [] acc = acc := rfl
theorem zipR_cons {k : Nat} {v : Value} {r : List Nat} {s : List Value} {acc : List (Nat × Value)} : zipR (k :: r) (v :: s) acc = zipR r s ((k, v) :: acc) := rfl

theorem envL_SE0 {n : Nat} {g : (Nat → Option (List Value)) × Bool} : ∀ (lv : List Nat) (vs : List Value) (t : T Value) (acc : List (Nat × Value)), lvOk n lv = true → SE (EJ n g) acc = ⟨n, t, g⟩ → (⟨n, putL lv vs t, g⟩ : Env) = SE (EJ n g) (zipR lv vs acc) := by
  intro lv
  induction lv with
  | nil => intro vs t acc _ h; cases vs <;> exact h.symm
  | cons k r ih =>
    intro vs t acc hk h
    cases vs with
    | nil => exact h.symm
    | cons v s =>
      simp only [lvOk, List.all_cons, Bool.and_eq_true] at hk
      refine ih s _ _ hk.2 ?_
      show (SE (EJ n g) acc).put (some k) v = _
      rw [h]
      show (bif Nat.blt k n then (⟨n, T.put v 40 t k, g⟩ : Env) else ⟨n, t, g⟩) = _
      rw [hk.1, cond_true]

theorem envL_SE {n : Nat} {g : (Nat → Option (List Value)) × Bool} {lv : List Nat} {vs : List Value} (h : lvOk n lv = true) : envL n g lv vs = SE (EJ n g) (zipR lv vs []) := envL_SE0 lv vs _ [] h rfl
theorem SE_nil' {b : Env} : SE b [] = b := rfl
theorem lvOk_nil {n : Nat} : lvOk n [] = true := rfl
theorem lvOk_cons {n k : Nat} {r : List Nat} : lvOk n (k :: r) = (decide (k < n) && lvOk n r) := by
  show (Nat.blt k n && _) = _
  rw [nblt]; rfl
theorem evs_nil {e : Env} : evs e [] = [] := rfl
theorem evs_cons {e : Env} {k : Nat} {r : List Nat} : evs e (k :: r) = e.get k :: evs e r := rfl

/- WHAT IS MET -/

/-- A block whose length is known. -/
def exactB : ABlk → Bool
  | .cells b => isNil b.lens
  | _ => true

def cloL (h : List ABlk) : Nat → List Nat → List Nat → Option (List Nat)
  | 0, _, _ => none
  | _ + 1, done, [] => some done
  | d + 1, done, id :: r => bif memN id done then cloL h d done r else cloL h d (done ++ [id]) (r ++ (refsB h[id]?).map (·.1))

theorem cloL_ok {h : List ABlk} (hh : h.length ≤ 1099511627774) : ∀ (d : Nat) (done todo L : List Nat), cloL h d done todo = some L → ∀ D, d ≤ D → clo (HP h) D done todo = some L := by
  intro d
  induction d with
  | zero => intro done todo L h1; cases h1
  | succ d ih =>
    intro done todo L h1 D hD
    obtain ⟨D, rfl⟩ : ∃ D', D = D' + 1 := ⟨D - 1, by omega⟩
    cases todo with
    | nil => exact h1
    | cons id r =>
      show (bif memN id done then clo (HP h) D done r else clo (HP h) D (done ++ [id]) (r ++ (refsB ((HP h).get id)).map (·.1))) = some L
      rw [HP_get h hh]
      simp only [cloL] at h1
      cases hm : memN id done with
      | true => rw [hm, cond_true] at h1; rw [cond_true]; exact ih _ _ _ h1 D (by omega)
      | false => rw [hm, cond_false] at h1; rw [cond_false]; exact ih _ _ _ h1 D (by omega)

theorem cloL_nil {h : List ABlk} {d : Nat} {done : List Nat} : cloL h (d + 1) done [] = some done := rfl
theorem cloL_cons {h : List ABlk} {d id : Nat} {done r : List Nat} : cloL h (d + 1) done (id :: r) = bif memN id done then cloL h d done r else cloL h d (done ++ [id]) (r ++ (refsB h[id]?).map (·.1)) := rfl
theorem memN_nil {n : Nat} : memN n [] = false := rfl
theorem memN_cons {n a : Nat} {r : List Nat} : memN n (a :: r) = (decide (a = n) || memN n r) := by
  show (bif Nat.beq a n then true else memN n r) = _
  rw [nbeq]; cases decide (a = n) <;> rfl

def normX (h : List ABlk) (p : Nat) (vs : List Value) : Option (List Nat) → Option Nrm
  | some L => normK (HP h) p vs (some L)
  | none => normA (HP h) p vs

theorem normA_X {h : List ABlk} (hh : h.length ≤ 1099511627774) {p : Nat} {vs : List Value} : normA (HP h) p vs = normX h p vs (cloL h 60 [] (upto p ++ (refsL vs).map (·.1))) := by
  cases hc : cloL h 60 [] (upto p ++ (refsL vs).map (·.1)) with
  | none => rfl
  | some L =>
    show normK (HP h) p vs (clo (HP h) 100000 [] (upto p ++ (refsL vs).map (·.1))) = _
    rw [cloL_ok hh 60 _ _ _ hc 100000 (by omega)]
    rfl

/-- New numbers. -/
def nm1 (L : List Nat) : Nm := fun id ver => (idxOf id L 0, ver)

def renBX (m : Nm) : ABlk → ABlk
  | .cells b => .cells { b with cells := (bif b.pf then b.cells else renVL m b.cells) }
  | .map es => .map (renM m es)
  | .tok a b c => .tok a b c

def renO (m : Nm) : Option ABlk → ABlk
  | some b => renBX m b
  | none => .map []

def renLs (h : List ABlk) (m : Nm) : List Nat → List ABlk
  | [] => []
  | id :: r => renO m h[id]? :: renLs h m r

def hasL (h : List ABlk) : List Nat → Bool
  | [] => true
  | id :: r => (h[id]?).isSome && hasL h r

def brefs (h : List ABlk) : List Nat → List (Nat × Nat)
  | [] => []
  | id :: r => refsB h[id]? ++ brefs h r

theorem blocksRefs_HP {h : List ABlk} (hh : h.length ≤ 1099511627774) (L : List Nat) : blocksRefs (HP h) L = brefs h L := by
  induction L with
  | nil => rfl
  | cons id r ih => simp only [blocksRefs, brefs, HP_get h hh, ih]

theorem exact_isOpen {h : List ABlk} (he : h.all exactB = true) (id : Nat) : isOpen h[id]? = false := by
  cases hq : h[id]? with
  | none => rfl
  | some b =>
    have := (List.all_eq_true.1 he) b (List.mem_of_getElem? hq)
    cases b with
    | cells c =>
      show (match c.lens with | [] => false | _ => true) = false
      have h1 : isNil c.lens = true := this
      cases hl : c.lens with
      | nil => rfl
      | cons a r => rw [hl] at h1; cases h1
    | _ => rfl

theorem cmps_no {h : List ABlk} (hh : h.length ≤ 1099511627774) (he : h.all exactB = true) (rs : List (Nat × Nat)) (p : Nat) : ∀ (L : List Nat) (ix : Nat), cmpsOf (HP h) rs p L ix = L.map fun id => (id, false) := by
  intro L
  induction L with
  | nil => intro ix; rfl
  | cons id r ih =>
    intro ix
    have : cmpOk (HP h) rs p ix id = false := by
      unfold cmpOk
      rw [HP_get h hh, exact_isOpen he]
      simp
    simp only [cmpsOf, this, ih, List.map_cons]

theorem cmpAt_no (n : Nat) : ∀ (L : List Nat), cmpAt n (L.map fun id => (id, false)) = false := by
  intro L
  induction L with
  | nil => rfl
  | cons id r ih =>
    show (bif Nat.beq id n then false else cmpAt n (r.map fun id => (id, false))) = false
    rw [ih]; cases Nat.beq id n <;> rfl

theorem renB_no (m : Nm) (b : ABlk) : renB m false (some b) = some (renBX m b) := by cases b <;> rfl

theorem heapOf_HP (l l0 : List ABlk) : heapOf (l.map some) (HP l0) = HP (l0 ++ l) := by
  induction l generalizing l0 with
  | nil => simp [heapOf]
  | cons b l ih =>
    show heapOf (l.map some) ((HP l0).push b) = _
    rw [HP_push, ih, List.append_assoc]
    rfl

theorem renBs_X {h : List ABlk} (hh : h.length ≤ 1099511627774) (m : Nm) : ∀ (L : List Nat), hasL h L = true → renBs (HP h) m (L.map fun id => (id, false)) = (renLs h m L).map some := by
  intro L
  induction L with
  | nil => intro _; rfl
  | cons id r ih =>
    intro hq
    simp only [hasL, Bool.and_eq_true] at hq
    simp only [List.map_cons, renBs, renLs, ih hq.2, HP_get h hh]
    cases hb : h[id]? with
    | none => rw [hb] at hq; cases hq.1
    | some b => rw [renB_no]; rfl

theorem hasAll_X {h : List ABlk} (hh : h.length ≤ 1099511627774) (L : List Nat) : hasAll (HP h) L = hasL h L := by
  induction L with
  | nil => rfl
  | cons id r ih => simp only [hasAll, hasL, HP_get h hh, ih]

/-- The heap of what is met. -/
theorem normX_some {h : List ABlk} (hh : h.length ≤ 1099511627774) (he : h.all exactB = true) {p : Nat} {vs : List Value} {L : List Nat} (h1 : (noDup L && (pins p L 0 && (hasL h L && (refsOk L (refsL vs ++ brefs h L) && okKey L.length)))) = true) :
    normX h p vs (some L) = some ⟨L, nm1 L, HP (renLs h (nm1 L) L)⟩ := by
  show normK (HP h) p vs (some L) = _
  simp only [Bool.and_eq_true] at h1
  obtain ⟨a1, a2, a3, a4, a5⟩ := h1
  unfold normK
  simp only []
  rw [cmps_no hh he, blocksRefs_HP hh, hasAll_X hh, a1, a2, a3, a4, a5]
  have ht : ∀ ts : List Nat, toksOk (L.map fun id => (id, false)) ts = true := by
    intro ts
    simp [toksOk, cmpAt_no]
  have hm : nmOf L (L.map fun id => (id, false)) = nm1 L := by
    funext id ver
    simp only [nmOf, cmpAt_no, nm1, cond_false]
  simp only [ht, Bool.and_self, cond_true, hm]
  rw [renBs_X hh _ _ a3]
  congr 2
  exact heapOf_HP _ []

theorem noDup_nil : noDup [] = true := rfl
theorem noDup_cons {a : Nat} {r : List Nat} : noDup (a :: r) = (!(memN a r) && noDup r) := rfl
theorem pins_nil {p i : Nat} : pins p [] i = decide (p ≤ i) := nble p i
theorem pins_cons {p i a : Nat} {r : List Nat} : pins p (a :: r) i = bif decide (i < p) then decide (a = i) && pins p r (i + 1) else true := by
  show (bif Nat.blt i p then Nat.beq a i && pins p r (i + 1) else true) = _
  rw [nblt, nbeq]
theorem hasL_nil {h : List ABlk} : hasL h [] = true := rfl
theorem hasL_cons {h : List ABlk} {id : Nat} {r : List Nat} : hasL h (id :: r) = ((h[id]?).isSome && hasL h r) := rfl
theorem brefs_nil {h : List ABlk} : brefs h [] = [] := rfl
theorem brefs_cons {h : List ABlk} {id : Nat} {r : List Nat} : brefs h (id :: r) = refsB h[id]? ++ brefs h r := rfl
theorem refsOk_nil {L : List Nat} : refsOk L [] = true := rfl
theorem refsOk_cons {L : List Nat} {a b : Nat} {r : List (Nat × Nat)} : refsOk L ((a, b) :: r) = (memN a L && refsOk L r) := rfl
theorem okKey_dec {k : Nat} : okKey k = decide (k ≤ 1099511627774) := nble _ _
theorem renLs_nil {h : List ABlk} {m : Nm} : renLs h m [] = [] := rfl
theorem renLs_cons {h : List ABlk} {m : Nm} {id : Nat} {r : List Nat} : renLs h m (id :: r) = renO m h[id]? :: renLs h m r := rfl
theorem renO_some {m : Nm} {b : ABlk} : renO m (some b) = renBX m b := rfl
theorem renBX_X {m : Nm} {cs : List Value} {t z : Nat} {pf : Bool} : renBX m (X cs t z pf) = X (bif pf then cs else renVL m cs) t z pf := rfl
theorem renBX_map {m : Nm} {es : List (Value × Value)} : renBX m (.map es) = .map (renM m es) := rfl
theorem renBX_tok {m : Nm} {a b c : Nat} : renBX m (.tok a b c) = .tok a b c := rfl
theorem exactB_X {cs : List Value} {t z : Nat} {pf : Bool} : exactB (X cs t z pf) = true := rfl
theorem exactB_map {es : List (Value × Value)} : exactB (.map es) = true := rfl
theorem exactB_tok {a b c : Nat} : exactB (.tok a b c) = true := rfl
theorem refsB_X {cs : List Value} {t z : Nat} {pf : Bool} : refsB (some (X cs t z pf)) = bif pf then [] else refsL cs := rfl
theorem refsB_map {es : List (Value × Value)} : refsB (some (.map es)) = refsM es := rfl
theorem refsB_tok {a b c : Nat} : refsB (some (.tok a b c)) = [] := rfl
theorem nm1_at {L : List Nat} {id ver : Nat} : nm1 L id ver = (idxOf id L 0, ver) := rfl
theorem idxOf_cons {n a k : Nat} {r : List Nat} : idxOf n (a :: r) k = bif decide (a = n) then k else idxOf n r (k + 1) := by
  show (bif Nat.beq a n then k else idxOf n r (k + 1)) = _
  rw [nbeq]
theorem upto_0 : upto 0 = [] := rfl
theorem upto_1 : upto 1 = [0] := rfl
theorem upto_2 : upto 2 = [0, 1] := rfl
theorem upto_3 : upto 3 = [0, 1, 2] := rfl
theorem upto_4 : upto 4 = [0, 1, 2, 3] := rfl
theorem upto_5 : upto 5 = [0, 1, 2, 3, 4] := rfl
theorem upto_6 : upto 6 = [0, 1, 2, 3, 4, 5] := rfl

/- LIVE ADDRESSES -/

theorem refsL_nil : refsL [] = [] := rfl
theorem refsL_cons {v : Value} {l : List Value} : refsL (v :: l) = refs v ++ refsL l := rfl
theorem refs_atom {v : Value} (h : atomV v = true) : refs v = [] := (atom_ok h).refs
theorem refs_ptr {i o : Nat} : refs (.pointer (some ⟨i, o, none⟩)) = [(i, 0)] := rfl
theorem refs_nilS {n c : Nat} : refs (.slice none n c) = [] := rfl
theorem refs_row {i o n c : Nat} : refs (.slice (some ⟨i, o, none⟩) (n + 1) c) = [(i, 0)] := rfl
theorem refs_row0 {i o : Nat} : refs (.slice (some ⟨i, o, none⟩) 0 1) = [] := rfl
theorem refs_rowC {i o n c : Nat} : refs (.slice (some ⟨i, o, none⟩) n (c + 2)) = [(i, 0)] := by
  show (bif Nat.beq n 0 && Nat.ble (c + 2) 1 then [] else [(i, 0)]) = _
  have : Nat.ble (c + 2) 1 = false := by rw [nble]; simp
  rw [this, Bool.and_false]; rfl
theorem refs_map {r : Nat} : refs (.map (some r)) = [(r, 0)] := rfl
theorem refs_FO {t n : Nat} {cs : List Value} : refs (FO t n cs) = [(t, n)] := rfl
theorem refs_agg {l : List Value} : refs (.agg ⟨l⟩) = refsL l := rfl
theorem refs_tuple {l : List Value} : refs (.tuple ⟨l⟩) = refsL l := rfl
theorem refs_func {g : FuncId} {a b : List Value} : refs (.func (.func g) ⟨a⟩ ⟨b⟩) = refsL a ++ refsL b := rfl
theorem refsM_nil : refsM [] = [] := rfl
theorem refsM_cons {k v : Value} {l : List (Value × Value)} : refsM ((k, v) :: l) = refs v ++ refsM l := rfl

theorem renVL_nil {m : Nm} : renVL m [] = [] := rfl
theorem renVL_cons {m : Nm} {v : Value} {l : List Value} : renVL m (v :: l) = renV m v :: renVL m l := rfl
theorem ren_atom {m : Nm} {v : Value} (h : atomV v = true) : renV m v = v := (atom_ok h).ren m
/-- A place in its new block: of exact blocks alone. -/
theorem ren_ptr {m : Nm} {i o : Nat} : renV m (.pointer (some ⟨i, o, none⟩)) = .pointer (some ⟨(m i 0).1, o, renSpot none (m i 0).2⟩) := rfl
theorem renSpot_0 : renSpot none 0 = none := rfl
theorem ren_nilS {m : Nm} {n c : Nat} : renV m (.slice none n c) = .slice none n c := rfl
theorem ren_row {m : Nm} {i o n c : Nat} : renV m (.slice (some ⟨i, o, none⟩) (n + 1) c) = .slice (some ⟨(m i 0).1, o, renSpot none (m i 0).2⟩) (n + 1) c := rfl
theorem ren_row0 {m : Nm} {i o : Nat} : renV m (.slice (some ⟨i, o, none⟩) 0 1) = .slice (some ⟨i, o, none⟩) 0 1 := rfl
theorem ren_rowC {m : Nm} {i o n c : Nat} : renV m (.slice (some ⟨i, o, none⟩) n (c + 2)) = .slice (some ⟨(m i 0).1, o, renSpot none (m i 0).2⟩) n (c + 2) := by
  show (bif Nat.beq n 0 && Nat.ble (c + 2) 1 then _ else _) = _
  have : Nat.ble (c + 2) 1 = false := by rw [nble]; simp
  rw [this, Bool.and_false]; rfl
theorem ren_map {m : Nm} {r : Nat} : renV m (.map (some r)) = .map (some (m r 0).1) := rfl
theorem ren_FO {m : Nm} {t n : Nat} {cs : List Value} : renV m (FO t n cs) = FO (m t n).1 n cs := rfl
theorem ren_agg {m : Nm} {l : List Value} : renV m (.agg ⟨l⟩) = .agg ⟨renVL m l⟩ := rfl
theorem ren_tuple {m : Nm} {l : List Value} : renV m (.tuple ⟨l⟩) = .tuple ⟨renVL m l⟩ := rfl
theorem ren_func {m : Nm} {g : FuncId} {a b : List Value} : renV m (.func (.func g) ⟨a⟩ ⟨b⟩) = .func (.func g) ⟨renVL m a⟩ ⟨renVL m b⟩ := rfl
theorem renM_nil {m : Nm} : renM m [] = [] := rfl
theorem renM_cons {m : Nm} {k v : Value} {l : List (Value × Value)} : renM m ((k, v) :: l) = (k, renV m v) :: renM m l := rfl

/-- Maps of plain values. -/
def atomM (l : List (Value × Value)) : Bool := l.all fun p => atomV p.2
theorem refsM_atom {l : List (Value × Value)} (h : atomM l = true) : refsM l = [] := by
  induction l with
  | nil => rfl
  | cons p r ih => simp only [atomM, List.all_cons, Bool.and_eq_true] at h; simp only [refsM, (atom_ok h.1).refs, ih h.2, List.append_nil]
theorem renM_atom {m : Nm} {l : List (Value × Value)} (h : atomM l = true) : renM m l = l := by
  induction l with
  | nil => rfl
  | cons p r ih => simp only [atomM, List.all_cons, Bool.and_eq_true] at h; simp only [renM, (atom_ok h.1).ren, ih h.2]
theorem toksM_atom {l : List (Value × Value)} (h : atomM l = true) : toksM l = [] := by
  induction l with
  | nil => rfl
  | cons p r ih => simp only [atomM, List.all_cons, Bool.and_eq_true] at h; simp only [toksM, (atom_ok h.1).toks, ih h.2, List.append_nil]

/- LOOPS -/

section
variable {rec : Rec} {f : FuncId} {p : Nat} {c : Code} {n : Nat} {g : (Nat → Option (List Value)) × Bool} {ins outs : List Tmp} {K : KC R}

def loopY (n : Nat) (g : (Nat → Option (List Value)) × Bool) (outs : List Tmp) (K : KC R) : Option (Out × AH) → Option R
  | some (.code x e, H) => K x (envL n g outs (evs e outs)) H
  | _ => none
def loopX (rec : Rec) (f : FuncId) (p : Nat) (c : Code) (n : Nat) (g : (Nat → Option (List Value)) × Bool) (ins outs : List Tmp) (K : KC R) (vs : List Value) : Option Nrm → Option R
  | some N => loopY n g outs K (rec (.loop f p c (envL n g ins (renVL N.m vs))) N.H)
  | none => none

theorem loopA_any {e : Env} {H : AH} (h1 : lvOk e.n ins = true) (h2 : lvOk e.n outs = true) : loopA rec f p c e H K (some (ins, outs, 999999)) = loopX rec f p c e.n e.g ins outs K (evs e ins) (normA H p (evs e ins)) := by
  show (bif lvOk e.n ins && lvOk e.n outs then loopN rec f p c e.n e.g ins outs 999999 (evs e ins) K (normA H p (evs e ins)) else none) = _
  rw [h1, h2]
  show loopN rec f p c e.n e.g ins outs 999999 (evs e ins) K (normA H p (evs e ins)) = _
  cases normA H p (evs e ins) with
  | none => rfl
  | some N =>
    show loopK e.n e.g outs 999999 K _ = loopY e.n e.g outs K _
    cases rec (.loop f p c (envL e.n e.g ins (renVL N.m (evs e ins)))) N.H with
    | none => rfl
    | some q =>
      obtain ⟨o, H1⟩ := q
      cases o <;> rfl
theorem loopX_some {vs : List Value} {L : List Nat} {m : Nm} {H : AH} : loopX rec f p c n g ins outs K vs (some ⟨L, m, H⟩) = loopY n g outs K (rec (.loop f p c (envL n g ins (renVL m vs))) H) := rfl
theorem loopY_some {x : AExit} {e : Env} {H : AH} : loopY n g outs K (some (.code x e, H)) = K x (envL n g outs (evs e outs)) H := rfl

def roundX (rec : Rec) (f : FuncId) (p : Nat) (c : Code) (n : Nat) (g : (Nat → Option (List Value)) × Bool) (ins : List Tmp) (vs : List Value) : Option Nrm → Option (Out × AH)
  | some N => rec (.loop f p c (envL n g ins (renVL N.m vs))) N.H
  | none => none
def roundY (x : AExit) (n : Nat) (g : (Nat → Option (List Value)) × Bool) (outs : List Tmp) (vs : List Value) : Option Nrm → Option (Out × AH)
  | some N => some (.code x (envL n g outs (renVL N.m vs)), N.H)
  | none => none
theorem roundX_some {vs : List Value} {L : List Nat} {m : Nm} {H : AH} : roundX rec f p c n g ins vs (some ⟨L, m, H⟩) = rec (.loop f p c (envL n g ins (renVL m vs))) H := rfl
theorem roundY_some {x : AExit} {vs : List Value} {L : List Nat} {m : Nm} {H : AH} : roundY x n g outs vs (some ⟨L, m, H⟩) = some (.code x (envL n g outs (renVL m vs)), H) := rfl

theorem round_again {e : Env} {H : AH} {k : Nat} (h1 : lvOk e.n ins = true) (h2 : lvOk e.n outs = true) : roundK rec f p c (some (ins, outs, k)) .normal e H = roundX rec f p c e.n e.g ins (evs e ins) (normA H p (evs e ins)) := by
  show (bif lvOk e.n ins && lvOk e.n outs then loopEnd ins outs e.n e.g rec f p c .normal e H else none) = _
  rw [h1, h2]
  show loopEnd ins outs e.n e.g rec f p c .normal e H = _
  unfold loopEnd
  simp only
  cases normA H p (evs e ins) <;> rfl
theorem round_out {e : Env} {H : AH} {k id : Nat} (h1 : lvOk e.n ins = true) (h2 : lvOk e.n outs = true) : roundK rec f p c (some (ins, outs, k)) (.exit id) e H = roundY (.exit id) e.n e.g outs (evs e outs) (normA H p (evs e outs)) := by
  show (bif lvOk e.n ins && lvOk e.n outs then loopEnd ins outs e.n e.g rec f p c (.exit id) e H else none) = _
  rw [h1, h2]
  show loopEnd ins outs e.n e.g rec f p c (.exit id) e H = _
  unfold loopEnd
  simp only
  cases normA H p (evs e outs) <;> rfl
theorem round_back {e : Env} {H : AH} {k : Nat} (h1 : lvOk e.n ins = true) (h2 : lvOk e.n outs = true) : roundK rec f p c (some (ins, outs, k)) .ret e H = roundY .ret e.n e.g outs (evs e outs) (normA H p (evs e outs)) := by
  show (bif lvOk e.n ins && lvOk e.n outs then loopEnd ins outs e.n e.g rec f p c .ret e H else none) = _
  rw [h1, h2]
  show loopEnd ins outs e.n e.g rec f p c .ret e H = _
  unfold loopEnd
  simp only
  cases normA H p (evs e outs) <;> rfl
end

/- WHAT IS HANDED BACK -/

theorem retR_end {raw : Bool} {p : Nat} {rs : List CRes} {e : Env} {H : AH} : retR P raw p rs .ret e H = valK P raw p H (resR H e rs) := rfl
theorem retR_fall {raw : Bool} {p : Nat} {rs : List CRes} {e : Env} {H : AH} : retR P raw p rs .normal e H = valK P raw p H (resR H e rs) := rfl
theorem valK_some {p : Nat} {H : AH} {l : List Value} : valK P false p H (some l) = valK2 p H (sealL P H 20 [oneOrTuple l]) := rfl
theorem valK2_some {p : Nat} {H : AH} {v : Value} {fr : Frs} : valK2 p H (some ([v], fr)) = outK (normA (raise H fr) p [v]) v := rfl
theorem outK_some {L : List Nat} {m : Nm} {H : AH} {v : Value} : outK (some ⟨L, m, H⟩) v = some (.val (renV m v), H) := rfl
theorem one_1 {v : Value} : oneOrTuple [v] = v := rfl
theorem one_0 : oneOrTuple [] = .tuple ⟨[]⟩ := rfl
theorem one_2 {v u : Value} {l : List Value} : oneOrTuple (v :: u :: l) = .tuple ⟨v :: u :: l⟩ := rfl
theorem raise_nil {H : AH} : raise H [] = H := rfl
theorem AH0_HP : AH0 = HP [] := rfl

theorem frzHP_nil {h : List ABlk} : frzHP h [] = h := rfl
def frzSet (h : List ABlk) (i n : Nat) : Option ABlk → List ABlk
  | some b => h.set i (frzAtB n b)
  | none => h
theorem frzHP_cons {h : List ABlk} {i n : Nat} {r : Frs} : frzHP h ((i, n) :: r) = frzSet (frzHP h r) i n (frzHP h r)[i]? := by
  simp only [frzHP, frzSet]
  cases (frzHP h r)[i]? <;> rfl
theorem frzSet_X {h : List ABlk} {i n : Nat} {cs : List Value} {t z : Nat} {pf : Bool} : frzSet h i n (some (X cs t z pf)) = h.set i (X cs t (max z n) pf) := rfl

/- CALLS -/

section
variable {rec : Rec} {f : FuncId}

theorem callS_1 (hc : Plain cfg) (hk : cfg.know f = none) {args : List Value} {H : AH} : callS P cfg rec f args H = callS1 rec f H (sealL P H 20 args) := by
  show callK rec f H (bif (cfg.raw f).1 then some (args, []) else sealL P H 20 args) (cfg.know f) = _
  rw [hc.raw, hk]
  rfl
theorem callS1_some {H : AH} {a : List Value} {fr : Frs} : callS1 rec f H (some (a, fr)) = callS2 rec f H (raise H fr) fr a (normA (raise H fr) 0 a) := rfl

def fls (L : List Nat) : List (Nat × Bool) := L.map fun id => (id, false)

theorem callS2_some {H : AH} {h : List ABlk} (hh : h.length ≤ 1099511627774) (he : h.all exactB = true) {fr : Frs} {a : List Value} {L : List Nat} {m : Nm} {H2 : AH} : callS2 rec f H (HP h) fr a (some ⟨L, m, H2⟩) = callS3 H (HP h) fr L (fls L) (rec (.call f (renVL m a)) H2) := by
  show callS3 H (HP h) fr L (cmpsOf (HP h) (refsL a ++ blocksRefs (HP h) L) 0 L 0) _ = _
  rw [cmps_no hh he]
  rfl

/-- Back: from a call's numbers to its caller's. -/
def bk (n : Nat) (L : List Nat) : Nm := fun ix s => bif Nat.blt ix L.length then (getN L ix, s) else (n + (ix - L.length), s)

def mergeL (τ : Nm) : List ABlk → List Nat → List ABlk → List ABlk
  | h, [], g => h ++ g.map (renBX τ)
  | h, id :: r, b :: g => mergeL τ (h.set id (renBX τ b)) r g
  | h, _ :: _, [] => h

theorem tops_no {h : List ABlk} : ∀ (L : List Nat), topsOf (HP h) (L.map fun id => (id, false)) = L.map fun _ => 0 := by
  intro L
  induction L with
  | nil => rfl
  | cons id r ih => simp only [List.map_cons, topsOf, cond_false, ih]

theorem getN_zero : ∀ (L : List Nat) (k : Nat), getN (L.map fun _ => 0) k = 0 := by
  intro L
  induction L with
  | nil => intro k; rfl
  | cons a r ih => intro k; cases k with | zero => rfl | succ j => exact ih j

theorem backNm_bk (n : Nat) (L : List Nat) : backNm n L.length L (L.map fun _ => 0) = bk n L := by
  funext ix s
  show (bif Nat.blt ix L.length then (getN L ix, bif Nat.beq (getN (L.map fun _ => 0) ix) 0 then s else Nat.add (getN (L.map fun _ => 0) ix) s) else (n + (ix - L.length), s)) = _
  rw [getN_zero]
  rfl

theorem topsOk_no (k : Nat) (L ts : List Nat) : topsOk k (L.map fun _ => 0) ts = true := by
  unfold topsOk
  rw [List.all_eq_true]
  intro t _
  rw [getN_zero]
  cases Nat.blt t k <;> rfl

theorem backsOk_no (Hc : AH) : ∀ (L : List Nat) (ix : Nat), backsOk Hc (L.map fun id => (id, false)) ix = true := by
  intro L
  induction L with
  | nil => intro ix; rfl
  | cons id r ih => intro ix; simp only [List.map_cons, backsOk, cond_false, ih, Bool.and_self]

theorem backB_no (m : Nm) (t0 f0 : Nat) (b : ABlk) : backB m false t0 f0 (some b) = some (renBX m b) := by cases b <;> rfl

theorem hasAll_upto {g : List ABlk} (hg : g.length ≤ 1099511627774) : ∀ (k : Nat), k ≤ g.length → hasAll (HP g) (upto k) = true := by
  intro k
  have happ : ∀ (a b : List Nat), hasAll (HP g) (a ++ b) = (hasAll (HP g) a && hasAll (HP g) b) := by
    intro a b
    induction a with
    | nil => rfl
    | cons x r ih => simp only [List.cons_append, hasAll, ih, Bool.and_assoc]
  induction k with
  | zero => intro _; rfl
  | succ k ih =>
    intro hk
    show hasAll (HP g) (upto k ++ [k]) = true
    rw [happ, ih (by omega)]
    simp only [hasAll, HP_get g hg, List.getElem?_eq_getElem (show k < g.length by omega)]
    rfl

theorem news_HP (m : Nm) {g : List ABlk} (hg : g.length ≤ 1099511627774) : ∀ (d k : Nat) (h : List ABlk), k + d = g.length → news m (HP g) k d (HP h) = HP (h ++ (g.drop k).map (renBX m)) := by
  intro d
  induction d with
  | zero => intro k h hk; rw [List.drop_of_length_le (by omega), List.map_nil, List.append_nil]; rfl
  | succ d ih =>
    intro k h hk
    show news m (HP g) (k + 1) d (addO (HP h) (backB m false 0 0 ((HP g).get k))) = _
    rw [HP_get g hg, List.getElem?_eq_getElem (by omega), backB_no]
    show news m (HP g) (k + 1) d ((HP h).push (renBX m g[k])) = _
    rw [HP_push, ih (k + 1) _ (by omega), List.drop_eq_getElem_cons (show k < g.length by omega), List.map_cons, List.append_assoc]
    rfl

theorem backs_HP (m : Nm) (H1 : AH) {g : List ABlk} (hg : g.length ≤ 1099511627774) : ∀ (L : List Nat) (ix : Nat) (h : List ABlk), ix + L.length ≤ g.length → (∀ id ∈ L, id < h.length) →
    HP (mergeL m h L (g.drop ix)) = HP ((fun h' => h' ++ (g.drop (ix + L.length)).map (renBX m)) (mergeL m h L ((g.drop ix).take L.length))) ∧ backs m H1 (HP g) (L.map fun id => (id, false)) ix (HP h) = HP (mergeL m h L ((g.drop ix).take L.length)) := by
  intro L
  induction L with
  | nil =>
    intro ix h hix _
    refine ⟨?_, ?_⟩
    · simp [mergeL]
    · simp [mergeL, backs]
  | cons id r ih =>
    intro ix h hix hid
    simp only [List.length_cons] at hix
    have hd : g.drop ix = g[ix] :: g.drop (ix + 1) := List.drop_eq_getElem_cons (by omega)
    obtain ⟨i1, i2⟩ := ih (ix + 1) (h.set id (renBX m g[ix])) (by omega) (fun x hx => by rw [List.length_set]; exact hid x (List.mem_cons_of_mem _ hx))
    refine ⟨?_, ?_⟩
    · rw [hd]
      simp only [List.length_cons, List.take_succ_cons, mergeL]
      rw [i1, show ix + 1 + r.length = ix + (r.length + 1) by omega]
    · show backs m H1 (HP g) (r.map fun id => (id, false)) (ix + 1) (setO (HP h) id (backB m false (topOf (H1.get id)) (frzOf (H1.get id)) ((HP g).get ix))) = _
      rw [HP_get g hg, List.getElem?_eq_getElem (by omega), backB_no]
      show backs m H1 (HP g) (r.map fun id => (id, false)) (ix + 1) ((HP h).set id (renBX m g[ix])) = _
      rw [HP_set _ _ _ (hid id (List.mem_cons_self ..)), i2, hd]
      simp only [List.length_cons, List.take_succ_cons, mergeL]

theorem mergeL_split (m : Nm) (h : List ABlk) (L : List Nat) (g : List ABlk) (hl : L.length ≤ g.length) : mergeL m h L g = mergeL m h L (g.take L.length) ++ (g.drop L.length).map (renBX m) := by
  induction L generalizing h g with
  | nil => simp [mergeL]
  | cons id r ih =>
    cases g with
    | nil => simp at hl
    | cons b g =>
      simp only [List.length_cons, Nat.add_le_add_iff_right] at hl
      simp only [mergeL, List.length_cons, List.take_succ_cons, List.drop_succ_cons]
      exact ih _ _ hl

/-- What a call changed: among these. -/
def chg (h h' : List ABlk) (L : List Nat) (fr : Frs) : List Nat := changed (HP h) (HP h') L ++ frIds fr

theorem mergeA_HP {h : List ABlk} {fr : Frs} {L : List Nat} {v : Value} {g : List ABlk} (hL : ∀ id ∈ L, id < h.length) (hg : L.length ≤ g.length) (hk : h.length + g.length ≤ 1099511627774) :
    mergeA (HP h) fr L (L.map fun id => (id, false)) v (HP g) = .did (renV (bk h.length L) v) none true (HP (mergeL (bk h.length L) h L g)) (chg h (mergeL (bk h.length L) h L g) L fr) := by
  unfold mergeA
  have hg' : g.length ≤ 1099511627774 := by omega
  have h1 : keysOk L = true := by
    unfold keysOk
    rw [List.all_eq_true]
    intro id hid
    exact okKey_le (by have := hL id hid; omega)
  have h2 : Nat.ble L.length (HP g).n = true := by rw [HP_n]; exact Nat.ble_eq_true_of_le hg
  have h3 : okKey ((HP h).n + (HP g).n) = true := by rw [HP_n, HP_n]; exact okKey_le hk
  rw [h1, h2, h3, tops_no, topsOk_no, backsOk_no, hasAll_upto hg' _ hg, HP_n, HP_n, backNm_bk]
  simp only [Bool.and_self, cond_true]
  have h4 := (backs_HP (bk h.length L) (HP h) hg' L 0 h (by omega) hL).2
  rw [List.drop_zero] at h4
  rw [h4, news_HP _ hg' _ _ _ (by omega), ← mergeL_split _ _ _ _ hg]
  rfl

theorem callS3_live {H : AH} {h : List ABlk} {fr : Frs} {a : Nat} {L : List Nat} {v : Value} {g : List ABlk} (hL : ((a :: L).all fun id => decide (id < h.length)) = true) (hg : (a :: L).length ≤ g.length) (hk : h.length + g.length ≤ 1099511627774) :
    callS3 H (HP h) fr (a :: L) (fls (a :: L)) (some (.val v, HP g)) = .did (renV (bk h.length (a :: L)) v) none true (HP (mergeL (bk h.length (a :: L)) h (a :: L) g)) (chg h (mergeL (bk h.length (a :: L)) h (a :: L) g) (a :: L) fr) := by
  show (bif isNil (a :: L) && flat v then Did.did v none true H [] else mergeA (HP h) fr (a :: L) _ v (HP g)) = _
  exact mergeA_HP (fun id hid => of_decide_eq_true (List.all_eq_true.1 hL id hid)) hg hk

/-- Frozen, of one cell or of such cells. -/
def fzn1 : Value → Bool
  | .agg ⟨l⟩ => atomL l
  | v => atomV v
def frzV : Value → Bool
  | .tuple ⟨l⟩ => l.all fzn1
  | v => fzn1 v
theorem fzn1_agg {l : List Value} : fzn1 (.agg ⟨l⟩) = atomL l := rfl
theorem fzn1_int {k : IntKind} {n : Int} : fzn1 (.int k n) = true := rfl
theorem fzn1_bool {b : Bool} : fzn1 (.bool b) = true := rfl
theorem fzn1_string {s : ByteArray} : fzn1 (.string s) = true := rfl
theorem fzn1_complex {k : FloatKind} {a b : Nat} : fzn1 (.complex k a b) = true := rfl
theorem fzn1_FL {n : Nat} {cs : List Value} : fzn1 (FL n cs) = true := rfl
theorem fzn1_FP {n : Nat} {cs : List Value} : fzn1 (FP n cs) = true := rfl
theorem fzn1_nilP : fzn1 (.pointer none) = true := rfl
theorem fzn1_nilI : fzn1 .nilIface = true := rfl
theorem frzV_tuple {l : List Value} : frzV (.tuple ⟨l⟩) = l.all fzn1 := rfl
theorem frzV_agg {l : List Value} : frzV (.agg ⟨l⟩) = atomL l := rfl
theorem frzV_int {k : IntKind} {n : Int} : frzV (.int k n) = true := rfl
theorem frzV_bool {b : Bool} : frzV (.bool b) = true := rfl
theorem frzV_string {s : ByteArray} : frzV (.string s) = true := rfl
theorem frzV_complex {k : FloatKind} {a b : Nat} : frzV (.complex k a b) = true := rfl
theorem frzV_FL {n : Nat} {cs : List Value} : frzV (FL n cs) = true := rfl
theorem frzV_FP {n : Nat} {cs : List Value} : frzV (FP n cs) = true := rfl
theorem frzV_nilP : frzV (.pointer none) = true := rfl
theorem frzV_nilI : frzV .nilIface = true := rfl

theorem fzn1_ok {v : Value} (h : fzn1 v = true) (m : Nm) : renV m v = v := by
  unfold fzn1 at h
  split at h
  · show Value.agg ⟨renVL m _⟩ = _; rw [renVL_atom h]
  · exact (atom_ok h).ren m
theorem frzL_ok {l : List Value} (h : l.all fzn1 = true) (m : Nm) : renVL m l = l := by
  induction l with
  | nil => rfl
  | cons v r ih => simp only [List.all_cons, Bool.and_eq_true] at h; simp only [renVL, fzn1_ok h.1, ih h.2]
theorem frzV_ok {v : Value} (h : frzV v = true) (m : Nm) : renV m v = v := by
  unfold frzV at h
  split at h
  · show Value.tuple ⟨renVL m _⟩ = _; rw [frzL_ok h]
  · exact fzn1_ok h m

theorem callS3_none {h : List ABlk} {v : Value} {b : ABlk} {g : List ABlk} (hf : flat v = false) (hk : h.length + (b :: g).length ≤ 1099511627774) : callS3 (HP h) (HP h) [] [] (fls []) (some (.val v, HP (b :: g))) = .did (renV (bk h.length []) v) none true (HP (h ++ (b :: g).map (renBX (bk h.length [])))) [] := by
  show (bif isNil [] && flat v then Did.did v none true (HP h) [] else mergeA (HP h) [] [] _ v (HP (b :: g))) = _
  rw [hf]
  show mergeA (HP h) [] [] (([] : List Nat).map fun id => (id, false)) v (HP (b :: g)) = _
  rw [mergeA_HP (L := []) (fun id hid => by cases hid) (Nat.zero_le _) hk]
  simp only [mergeL]
  rfl

/-- A call that meets nothing, and makes nothing. -/
theorem callS3_pure {h : List ABlk} {v : Value} (hv : frzV v = true) (hk : h.length ≤ 1099511627774) : callS3 (HP h) (HP h) [] [] (fls []) (some (.val v, HP [])) = .did v none true (HP h) [] := by
  show (bif isNil [] && flat v then Did.did v none true (HP h) [] else mergeA (HP h) [] [] _ v (HP [])) = _
  cases hf : flat v with
  | true => rfl
  | false =>
    show mergeA (HP h) [] [] (([] : List Nat).map fun id => (id, false)) v (HP []) = _
    rw [mergeA_HP (L := []) (fun id hid => by cases hid) (Nat.zero_le _) (by simpa using hk), frzV_ok hv]
    simp only [mergeL, List.map_nil, List.append_nil]
    rfl

theorem callS3_rows {h h1 : List ABlk} {p : Nat × Nat} {fr : Frs} {v : Value} (hv : frzV v = true) (hk : h1.length ≤ 1099511627774) : callS3 (HP h) (HP h1) (p :: fr) [] (fls []) (some (.val v, HP [])) = .did v none true (HP (bif flat v then h else h1)) (bif flat v then [] else frIds (p :: fr)) := by
  show (bif isNil [] && flat v then Did.did v none true (HP h) [] else mergeA (HP h1) (p :: fr) [] _ v (HP [])) = _
  cases hf : flat v with
  | true => rfl
  | false =>
    show mergeA (HP h1) (p :: fr) [] (([] : List Nat).map fun id => (id, false)) v (HP []) = _
    rw [mergeA_HP (L := []) (fun id hid => by cases hid) (Nat.zero_le _) (by simpa using hk), frzV_ok hv]
    simp only [mergeL, List.map_nil, List.append_nil]
    rfl

theorem noRefs_FO {t n : Nat} {cs : List Value} : noRefs (FO t n cs) = false := rfl
theorem noRefs_FP {n : Nat} {cs : List Value} : noRefs (FP n cs) = true := rfl
theorem noRefs_ptr {a : Addr} : noRefs (.pointer (some a)) = false := rfl
theorem noRefs_nilP : noRefs (.pointer none) = true := rfl
theorem noRefs_slice {a : Option Addr} {n c : Nat} : noRefs (.slice a n c) = false := rfl
theorem noRefs_map {r : Nat} : noRefs (.map (some r)) = false := rfl
theorem cells_map {a : Option Nat} : (Value.map a).cells = ⟨[.map a]⟩ := eq_of_heq HEq.rfl
theorem cells_complex {k : FloatKind} {a b : Nat} : (Value.complex k a b).cells = ⟨[.complex k a b]⟩ := eq_of_heq HEq.rfl
theorem cells_nilF : Value.nilFunc.cells = ⟨[.nilFunc]⟩ := eq_of_heq HEq.rfl
theorem isJK_map {a : Option Nat} : isJK (.map a) = false := eq_of_heq HEq.rfl
theorem isJK_complex {k : FloatKind} {a b : Nat} : isJK (.complex k a b) = false := eq_of_heq HEq.rfl
theorem isJK_nilF : isJK .nilFunc = false := eq_of_heq HEq.rfl
theorem isJK_FP {n : Nat} {cs : List Value} : isJK (FP n cs) = false := by unfold isJK; split <;> simp_all
theorem isJK_fun {g : FuncId} {a c : Array Value} : isJK (.func (.func g) a c) = false := by unfold isJK; split <;> simp_all
theorem oneCell_map {a : Option Nat} : oneCell (.map a) = true := eq_of_heq HEq.rfl
theorem oneCell_complex {k : FloatKind} {a b : Nat} : oneCell (.complex k a b) = true := eq_of_heq HEq.rfl
theorem oneCell_nilF : oneCell .nilFunc = true := eq_of_heq HEq.rfl
theorem oneCell_FP {n : Nat} {cs : List Value} : oneCell (FP n cs) = true := oneCell_of (fun _ h => by cases h) (fun _ h => by cases h) isJK_FP
theorem nilc_ptr {a : Addr} : nilcA (.pointer (some a)) = val (.pointer (some a)) := rfl
theorem nilc_FP {n : Nat} {cs : List Value} : nilcA (FP n cs) = val (FP n cs) := rfl
theorem mm_min2 {k : IntKind} {a b : Int} : mmV false (.int k a) [.int k b] = val (.int k (min a b)) := by
  show valO (some (.int k (if b < a then b else a))) = _
  rw [show (if b < a then b else a) = min a b by split <;> omega]; rfl
theorem mm_max2 {k : IntKind} {a b : Int} : mmV true (.int k a) [.int k b] = val (.int k (max a b)) := by
  show valO (some (.int k (if b > a then b else a))) = _
  rw [show (if b > a then b else a) = max a b by split <;> omega]; rfl
theorem mm_max3 {k : IntKind} {a b c : Int} : mmV true (.int k a) [.int k b, .int k c] = val (.int k (max (max a b) c)) := by
  show valO (some (.int k (if c > (if b > a then b else a) then c else (if b > a then b else a)))) = _
  rw [show (if b > a then b else a) = max a b by split <;> omega, show (if c > max a b then c else max a b) = max (max a b) c by split <;> omega]; rfl
theorem fl_int {k : IntKind} {n : Int} : flat (.int k n) = true := rfl
theorem fl_bool {b : Bool} : flat (.bool b) = true := rfl
theorem fl_string {s : ByteArray} : flat (.string s) = true := rfl
theorem fl_complex {k : FloatKind} {a b : Nat} : flat (.complex k a b) = true := rfl
theorem fl_FL {n : Nat} {cs : List Value} : flat (FL n cs) = false := rfl
theorem fl_FO {t n : Nat} {cs : List Value} : flat (FO t n cs) = false := rfl
theorem fl_ptr {a : Addr} : flat (.pointer (some a)) = false := rfl
theorem fl_map {r : Nat} : flat (.map (some r)) = false := rfl
theorem fl_agg {l : List Value} : flat (.agg ⟨l⟩) = flatL l := rfl
theorem fl_tuple {l : List Value} : flat (.tuple ⟨l⟩) = flatL l := rfl
theorem flatL_nil : flatL [] = true := rfl
theorem flatL_cons {v : Value} {l : List Value} : flatL (v :: l) = (flat v && flatL l) := rfl
theorem frIds_cons {a b : Nat} {r : Frs} : frIds ((a, b) :: r) = a :: frIds r := rfl
theorem frIds_nil : frIds [] = [] := rfl

/-- What is known of a function. -/
theorem callS_known (hc : Plain cfg) {args : List Value} {H : AH} {g : List Value → Option Value} (hk : cfg.know f = some g) : callS P cfg rec f args H = callK rec f H (sealL P H 20 args) (some g) := by
  show callK rec f H (bif (cfg.raw f).1 then some (args, []) else sealL P H 20 args) (cfg.know f) = _
  rw [hc.raw, hk]
  rfl
theorem callK_none {H : AH} {s : Option (List Value × Frs)} : callK rec f H s none = callS1 rec f H s := rfl
theorem callK_known {H : AH} {a : List Value} {fr : Frs} {g : List Value → Option Value} {v : Value} (hv : g a = some v) : callK rec f H (some (a, fr)) (some g) = .did v none true (raise H fr) (frIds fr) := by
  show callG rec f H a fr (g a) = _
  rw [hv]
  rfl

theorem opsK_did {v : Value} {nb : Option ABlk} {eff : Bool} {H : AH} {wr : List Nat} {dst : Option Tmp} {e : Env} {K : KR R} : opsK (.did v nb eff H wr) dst e K = K (e.put dst v) H := rfl

theorem opsDC_did {cs : Calls0} {b : Array Nat} {K : KR R} {d : Option Tmp} {ri : RI} {l : List RO} {k : Nat} {acc : List Ti} {e : Env} {h h' : List ABlk} {v : Value} {wr : List Nat} : opsDC P cs b K d ri l k acc e (HP h) (.did v none true (HP h') wr) = opsDR P cs b K l (k + 1) (⟨k, [], some (wr, h.length, h'.length)⟩ :: acc) (e.put d v) (HP h') := by
  show opsDR P cs b K l (k + 1) (⟨k, [], some (wr, (HP h).n, (HP h').n)⟩ :: acc) (e.put d v) (HP h') = _
  rw [HP_n, HP_n]
end

theorem mergeL_nil {τ : Nm} {h g : List ABlk} : mergeL τ h [] g = h ++ g.map (renBX τ) := by simp only [mergeL]
theorem mergeL_cons {τ : Nm} {h : List ABlk} {id : Nat} {r : List Nat} {b : ABlk} {g : List ABlk} : mergeL τ h (id :: r) (b :: g) = mergeL τ (h.set id (renBX τ b)) r g := by simp only [mergeL]
theorem bk_at {n : Nat} {L : List Nat} {ix s : Nat} : bk n L ix s = bif decide (ix < L.length) then (getN L ix, s) else (n + (ix - L.length), s) := by
  show (bif Nat.blt ix L.length then _ else _) = _
  rw [nblt]
theorem getN_0 {a : Nat} {r : List Nat} : getN (a :: r) 0 = a := rfl
theorem getN_s {a k : Nat} {r : List Nat} : getN (a :: r) (k + 1) = getN r k := rfl

theorem cond_ok {f : FuncId} {p : Nat} {rec : Rec} {a b : RC} {K : KC R} {e : Env} {H : AH} {q : Prop} [Decidable q] {r : Option R} (h1 : q → codeR P cfg f p rec a K e H = r) (h2 : ¬ q → codeR P cfg f p rec b K e H = r) : condC P cfg f p rec a b K e H (.bool (decide q)) = r := by
  by_cases hq : q
  · rw [decide_eq_true hq]; exact h1 hq
  · rw [decide_eq_false hq]; exact h2 hq
theorem gd_ok {cs : Calls0} {K : KR R} {d : Option Tmp} {l : List RO} {e : Env} {H : AH} {wr : List Nat} {want : Bool} {x : ARes} {q : Bool} {r : Option R} (h1 : q = want → opsI P cs K d l e H wr x = r) (h2 : q = !want → opsI P cs K d l e H wr (val undef) = r) : opsGd P cs K d l e H wr want x (.bool q) = r := by
  rw [opsGd_bool]
  by_cases hq : q = want
  · rw [if_pos hq]; exact h1 hq
  · rw [if_neg hq]; exact h2 (by cases q <;> cases want <;> first | rfl | exact absurd rfl hq)
theorem gdD_ok {cs : Calls0} {b : Array Nat} {K : KR R} {d : Option Tmp} {ri : RI} {l : List RO} {k : Nat} {acc : List Ti} {e : Env} {H : AH} {want q : Bool} {r : Option R} (h1 : q = want → opsDR P cs b K (⟨d, none, ri⟩ :: l) k acc e H = r) (h2 : q = !want → opsDR P cs b K l (k + 1) acc (e.put d undef) H = r) : opsDG P cs b K d ri l k acc e H (gselV want (.bool q)) = r := by
  by_cases hq : q = want
  · subst hq
    have : gselV q (.bool q) = some true := by cases q <;> rfl
    rw [this, opsDG_do]; exact h1 rfl
  · have hq2 : q = !want := by cases q <;> cases want <;> first | rfl | exact absurd rfl hq
    have : gselV want (.bool q) = some false := by rw [hq2]; cases want <;> rfl
    rw [this, opsDG_skip]; exact h2 hq2
theorem gd_skip {cs : Calls0} {K : KR R} {d : Option Tmp} {l : List RO} {e : Env} {H : AH} {wr : List Nat} {x : ARes} : opsGd P cs K d l e H wr true x (.bool false) = opsR P cs K l (e.put d undef) H := rfl
theorem gd_skip' {cs : Calls0} {K : KR R} {d : Option Tmp} {l : List RO} {e : Env} {H : AH} {wr : List Nat} {x : ARes} : opsGd P cs K d l e H wr false x (.bool true) = opsR P cs K l (e.put d undef) H := rfl
theorem gd_do {cs : Calls0} {K : KR R} {d : Option Tmp} {l : List RO} {e : Env} {H : AH} {wr : List Nat} {x : ARes} : opsGd P cs K d l e H wr true x (.bool true) = opsI P cs K d l e H wr x := rfl
theorem gd_do' {cs : Calls0} {K : KR R} {d : Option Tmp} {l : List RO} {e : Env} {H : AH} {wr : List Nat} {x : ARes} : opsGd P cs K d l e H wr false x (.bool false) = opsI P cs K d l e H wr x := rfl
theorem drawn_ok {b : Array Nat} {acc : List Ti} {K : KR R} {e : Env} {H : AH} {r : Option R} (h : (chainTi b acc.reverse && sepAll b acc) = true) (k : K e H = r) : drawEndR b acc K e H = r := by rw [draw_end h]; exact k
/-- What is known of frozen cells. -/
abbrev FzL (l : List Value) : Prop := refsL l = [] ∧ noRefsL l = true ∧ (∀ m, renVL m l = l) ∧ (∀ (P : Program) (H : AH) (d : Nat), sealL P H (d + 1) l = some (l, [])) ∧ l.all oneCell = true ∧ nfL l = l ∧ toksL l = [] ∧ atomL l = true
theorem fzl {l : List Value} (h : atomL l = true) : FzL l :=
  ⟨refsL_atom h, noRefsL_atom h, fun _ => renVL_atom h, fun _ _ _ => sealL_atom h, oneL_atom h, nfL_atom h, toksL_atom h, h⟩
theorem condB_ok {f : FuncId} {p : Nat} {rec : Rec} {a b : RC} {K : KC R} {e : Env} {H : AH} {q : Bool} {r : Option R} (h1 : q = true → codeR P cfg f p rec a K e H = r) (h2 : q = false → codeR P cfg f p rec b K e H = r) : condC P cfg f p rec a b K e H (.bool q) = r := by
  cases q with
  | true => exact h1 rfl
  | false => exact h2 rfl

end
end Go.Den
