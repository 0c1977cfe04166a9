/-
  THE ENGINE, part B: values by abstract numbers of blocks, the heap of such blocks, and what it means that a world holds them.
-/
import Derived.Test.YtbpcageamcgehaaEngA
namespace Go.Den
noncomputable section

def fnFlat : Fn → Bool
  | .yield _ => false
  | _ => true

mutual
/-- No address in it. -/
def flat : Value → Bool
  | .bool _ => true
  | .int _ _ => true
  | .float _ _ => true
  | .complex _ _ _ => true
  | .string _ => true
  | .pointer none => true
  | .slice none _ _ => true
  | .map none => true
  | .chan none => true
  | .nilFunc => true
  | .nilIface => true
  | .func fn f c => fnFlat fn && (flatA f && flatA c)
  | .iface _ v => flat v
  | .agg cs => flatA cs
  | .tuple vs => flatA vs
  | _ => false
def flatA : Array Value → Bool
  | ⟨l⟩ => flatL l
def flatL : List Value → Bool
  | [] => true
  | v :: r => flat v && flatL r
end

theorem flatL_iff (l : List Value) : flatL l = true ↔ ∀ v ∈ l, flat v = true := by
  induction l with
  | nil => simp [flatL]
  | cons a l ih => simp [flatL, ih]

theorem flatA_iff (a : Array Value) : flatA a = true ↔ ∀ v ∈ a.toList, flat v = true := by
  cases a with
  | mk l => simp [flatA, flatL_iff]

/-- Where a version of an abstract block lies. -/
structure Loc where
  block : Nat
  cap : Nat
  esz : Nat

abbrev Ren := Nat → Nat → Option Loc

def aver (a : Addr) : Nat := a.spot.getD 0

/-- An abstract value, and what stands for it in a world. A slice's last number: 0: as far as its block goes; c + 1: c. -/
inductive VR (ρ : Ren) : Value → Value → Prop
  | flat {v : Value} (h : flat v = true) : VR ρ v v
  | ptr {a : Addr} {l : Loc} (h : ρ a.block (aver a) = some l) : VR ρ (.pointer (some a)) (.pointer (some ⟨l.block, a.off, none⟩))
  | sliceOpen {a : Addr} {l : Loc} {len : Nat} (hl : 0 < len) (h : ρ a.block (aver a) = some l) : VR ρ (.slice (some a) len 0) (.slice (some ⟨l.block, a.off, none⟩) len (l.cap - a.off / l.esz))
  | sliceEmpty {a a' : Addr} {c' : Nat} : VR ρ (.slice (some a) 0 0) (.slice (some a') 0 c')
  | sliceExact {a : Addr} {l : Loc} {len c : Nat} (h : ρ a.block (aver a) = some l) : VR ρ (.slice (some a) len (c + 1)) (.slice (some ⟨l.block, a.off, none⟩) len c)
  | map {r : Nat} {l : Loc} (h : ρ r 0 = some l) : VR ρ (.map (some r)) (.map (some l.block))
  | func {fn : Fn} {f c f' c' : Array Value} (hn : fnFlat fn = true) (hf : f.size = f'.size) (hc : c.size = c'.size)
      (h1 : ∀ (i : Nat) (v v' : Value), f[i]? = some v → f'[i]? = some v' → VR ρ v v') (h2 : ∀ (i : Nat) (v v' : Value), c[i]? = some v → c'[i]? = some v' → VR ρ v v') : VR ρ (.func fn f c) (.func fn f' c')
  | iface {t : TypeId} {v v' : Value} (h : VR ρ v v') : VR ρ (.iface t v) (.iface t v')
  | agg {cs cs' : Array Value} (hs : cs.size = cs'.size) (h : ∀ (i : Nat) (v v' : Value), cs[i]? = some v → cs'[i]? = some v' → VR ρ v v') : VR ρ (.agg cs) (.agg cs')
  | tuple {cs cs' : Array Value} (hs : cs.size = cs'.size) (h : ∀ (i : Nat) (v v' : Value), cs[i]? = some v → cs'[i]? = some v' → VR ρ v v') : VR ρ (.tuple cs) (.tuple cs')

/-- Lists of them. -/
def VRL (ρ : Ren) (l l' : List Value) : Prop := l.length = l'.length ∧ ∀ (i : Nat) (v v' : Value), l[i]? = some v → l'[i]? = some v' → VR ρ v v'

def Sub (ρ ρ' : Ren) : Prop := ∀ id ver l, ρ id ver = some l → ρ' id ver = some l

theorem Sub.refl (ρ : Ren) : Sub ρ ρ := fun _ _ _ h => h
theorem Sub.trans {a b c : Ren} (h : Sub a b) (h' : Sub b c) : Sub a c := fun id ver l e => h' id ver l (h id ver l e)

theorem VR.mono {ρ ρ' : Ren} (hs : Sub ρ ρ') {v v' : Value} (h : VR ρ v v') : VR ρ' v v' := by
  induction h with
  | flat h => exact .flat h
  | ptr h => exact .ptr (hs _ _ _ h)
  | sliceOpen hl h => exact .sliceOpen hl (hs _ _ _ h)
  | sliceEmpty => exact .sliceEmpty
  | sliceExact h => exact .sliceExact (hs _ _ _ h)
  | map h => exact .map (hs _ _ _ h)
  | func hn hf hc h1 h2 ih1 ih2 => exact .func hn hf hc ih1 ih2
  | iface h ih => exact .iface ih
  | agg hs' h ih => exact .agg hs' ih
  | tuple hs' h ih => exact .tuple hs' ih

theorem VRL.mono {ρ ρ' : Ren} (hs : Sub ρ ρ') {l l' : List Value} (h : VRL ρ l l') : VRL ρ' l l' := ⟨h.1, fun i v v' a b => (h.2 i v v' a b).mono hs⟩

theorem arr_eq_of {cs cs' : Array Value} (hs : cs.size = cs'.size) (h : ∀ (i : Nat) (v v' : Value), cs[i]? = some v → cs'[i]? = some v' → v' = v) : cs' = cs := by
  apply Array.ext hs.symm
  intro i h1 h2
  exact h i cs[i] cs'[i] (Array.getElem?_eq_getElem h2) (Array.getElem?_eq_getElem h1)

theorem VR.of_flat {ρ : Ren} {v v' : Value} (h : VR ρ v v') : Go.Den.flat v = true → v' = v := by
  induction h with
  | flat h => intro _; rfl
  | ptr h => intro hf; simp [Go.Den.flat] at hf
  | sliceOpen hl h => intro hf; simp [Go.Den.flat] at hf
  | sliceEmpty => intro hf; simp [Go.Den.flat] at hf
  | sliceExact h => intro hf; simp [Go.Den.flat] at hf
  | map h => intro hf; simp [Go.Den.flat] at hf
  | func hn hf hc h1 h2 ih1 ih2 =>
    intro hfl
    simp only [Go.Den.flat, Bool.and_eq_true, flatA_iff] at hfl
    have e1 := arr_eq_of hf fun i v v' a b => ih1 i v v' a b (hfl.2.1 v (by simpa using Array.mem_of_getElem? a))
    have e2 := arr_eq_of hc fun i v v' a b => ih2 i v v' a b (hfl.2.2 v (by simpa using Array.mem_of_getElem? a))
    rw [e1, e2]
  | iface h ih => intro hf; simp only [Go.Den.flat] at hf; rw [ih hf]
  | agg hs h ih =>
    intro hf
    simp only [Go.Den.flat, flatA_iff] at hf
    rw [arr_eq_of hs fun i v v' a b => ih i v v' a b (hf v (by simpa using Array.mem_of_getElem? a))]
  | tuple hs h ih =>
    intro hf
    simp only [Go.Den.flat, flatA_iff] at hf
    rw [arr_eq_of hs fun i v v' a b => ih i v v' a b (hf v (by simpa using Array.mem_of_getElem? a))]

theorem VRL.of_flat {ρ : Ren} {l l' : List Value} (h : VRL ρ l l') (hf : ∀ v ∈ l, flat v = true) : l' = l := by
  apply List.ext_getElem? 
  intro i
  by_cases hi : i < l.length
  · have hi' : i < l'.length := h.1 ▸ hi
    rw [List.getElem?_eq_getElem hi, List.getElem?_eq_getElem hi']
    exact congrArg some ((h.2 i _ _ (List.getElem?_eq_getElem hi) (List.getElem?_eq_getElem hi')).of_flat (hf _ (List.getElem_mem hi)))
  · have hl := h.1
    have h1 : l.length ≤ i := by omega
    have h2 : l'.length ≤ i := by omega
    rw [List.getElem?_eq_none h1, List.getElem?_eq_none h2]

theorem VRL.nil (ρ : Ren) : VRL ρ [] [] := ⟨rfl, fun i v v' h => by simp at h⟩

theorem VRL.cons {ρ : Ren} {v v' : Value} {l l' : List Value} (h : VR ρ v v') (hl : VRL ρ l l') : VRL ρ (v :: l) (v' :: l') := by
  refine ⟨by simp [hl.1], ?_⟩
  intro i x x' a b
  cases i with
  | zero => simp at a b; subst a; subst b; exact h
  | succ i => simp at a b; exact hl.2 i x x' a b

theorem VRL.uncons {ρ : Ren} {v : Value} {l l2 : List Value} (h : VRL ρ (v :: l) l2) : ∃ v' l', l2 = v' :: l' ∧ VR ρ v v' ∧ VRL ρ l l' := by
  cases l2 with
  | nil => have := h.1; simp at this
  | cons v' l' =>
    refine ⟨v', l', rfl, h.2 0 v v' (by simp) (by simp), by have := h.1; simpa using this, ?_⟩
    intro i x x' a b
    exact h.2 (i + 1) x x' (by simpa using a) (by simpa using b)

theorem VRL.unnil {ρ : Ren} {l2 : List Value} (h : VRL ρ [] l2) : l2 = [] := by
  cases l2 with
  | nil => rfl
  | cons a b => have := h.1; simp at this

theorem VRL.append {ρ : Ren} {a b a' b' : List Value} (h : VRL ρ a a') (h' : VRL ρ b b') : VRL ρ (a ++ b) (a' ++ b') := by
  refine ⟨by simp [h.1, h'.1], ?_⟩
  intro i v v' x y
  by_cases hi : i < a.length
  · rw [List.getElem?_append_left hi] at x
    rw [List.getElem?_append_left (h.1 ▸ hi)] at y
    exact h.2 i v v' x y
  · rw [List.getElem?_append_right (by omega)] at x
    rw [List.getElem?_append_right (by have := h.1; omega), ← h.1] at y
    exact h'.2 _ v v' x y

theorem VRL.set {ρ : Ren} {a a' : List Value} (h : VRL ρ a a') {v v' : Value} (hv : VR ρ v v') (k : Nat) : VRL ρ (a.set k v) (a'.set k v') := by
  refine ⟨by simp [h.1], ?_⟩
  intro i x x' e e'
  rw [List.getElem?_set] at e e'
  have := h.1
  split at e
  · rename_i hk
    rw [if_pos hk] at e'
    split at e
    · split at e'
      · simp at e e'; subst e; subst e'; exact hv
      · simp at e'
    · simp at e
  · rename_i hk
    rw [if_neg hk] at e'
    exact h.2 i x x' e e'

theorem VRL.take {ρ : Ren} {a a' : List Value} (h : VRL ρ a a') (k : Nat) : VRL ρ (a.take k) (a'.take k) := by
  refine ⟨by simp [h.1], ?_⟩
  intro i x x' e e'
  rw [List.getElem?_take] at e e'
  split at e
  · rename_i hk; rw [if_pos hk] at e'; exact h.2 i x x' e e'
  · simp at e

theorem VRL.drop {ρ : Ren} {a a' : List Value} (h : VRL ρ a a') (k : Nat) : VRL ρ (a.drop k) (a'.drop k) := by
  refine ⟨by simp [h.1], ?_⟩
  intro i x x' e e'
  rw [List.getElem?_drop] at e e'
  exact h.2 _ x x' e e'

theorem VRL.flat {ρ : Ren} {l : List Value} (h : ∀ v ∈ l, flat v = true) : VRL ρ l l := by
  refine ⟨rfl, ?_⟩
  intro i v v' a b
  rw [a] at b
  cases b
  exact .flat (h v (List.mem_of_getElem? a))

theorem VRL.get {ρ : Ren} {a a' : List Value} (h : VRL ρ a a') {i : Nat} {v : Value} (e : a[i]? = some v) : ∃ v', a'[i]? = some v' ∧ VR ρ v v' := by
  have hi : i < a.length := by
    rcases Nat.lt_or_ge i a.length with h | h
    · exact h
    · rw [List.getElem?_eq_none h] at e; cases e
  have hi' : i < a'.length := h.1 ▸ hi
  exact ⟨a'[i], List.getElem?_eq_getElem hi', h.2 i _ _ e (List.getElem?_eq_getElem hi')⟩

theorem VR.agg_inv {ρ : Ren} {cs : Array Value} {v : Value} (h : VR ρ (.agg cs) v) : ∃ cs', v = .agg cs' ∧ VRL ρ cs.toList cs'.toList := by
  cases h with
  | flat h =>
    simp only [Go.Den.flat, flatA_iff] at h
    exact ⟨cs, rfl, .flat h⟩
  | agg hs h => exact ⟨_, rfl, by simpa using hs, fun i v v' a b => h i v v' (by simpa using a) (by simpa using b)⟩

theorem VR.tuple_inv {ρ : Ren} {cs : Array Value} {v : Value} (h : VR ρ (.tuple cs) v) : ∃ cs', v = .tuple cs' ∧ VRL ρ cs.toList cs'.toList := by
  cases h with
  | flat h =>
    simp only [Go.Den.flat, flatA_iff] at h
    exact ⟨cs, rfl, .flat h⟩
  | tuple hs h => exact ⟨_, rfl, by simpa using hs, fun i v v' a b => h i v v' (by simpa using a) (by simpa using b)⟩

theorem VR.agg_mk {ρ : Ren} {cs cs' : Array Value} (h : VRL ρ cs.toList cs'.toList) : VR ρ (.agg cs) (.agg cs') :=
  .agg (by simpa using h.1) fun i v v' a b => h.2 i v v' (by simpa using a) (by simpa using b)

theorem VR.tuple_mk {ρ : Ren} {cs cs' : Array Value} (h : VRL ρ cs.toList cs'.toList) : VR ρ (.tuple cs) (.tuple cs') :=
  .tuple (by simpa using h.1) fun i v v' a b => h.2 i v v' (by simpa using a) (by simpa using b)

theorem VR.ptr_inv {ρ : Ren} {a : Addr} {v : Value} (h : VR ρ (.pointer (some a)) v) : ∃ l, ρ a.block (aver a) = some l ∧ v = .pointer (some ⟨l.block, a.off, none⟩) := by
  cases h with
  | flat h => simp [Go.Den.flat] at h
  | ptr h => exact ⟨_, h, rfl⟩

theorem VR.map_inv {ρ : Ren} {r : Nat} {v : Value} (h : VR ρ (.map (some r)) v) : ∃ l, ρ r 0 = some l ∧ v = .map (some l.block) := by
  cases h with
  | flat h => simp [Go.Den.flat] at h
  | map h => exact ⟨_, h, rfl⟩

/-- The concrete room of a slice whose last number is c. -/
def capOf (l : Loc) (a : Addr) (c : Nat) : Nat := match c with | 0 => l.cap - a.off / l.esz | c + 1 => c

theorem VR.slice_inv {ρ : Ren} {a : Addr} {len c : Nat} {v : Value} (h : VR ρ (.slice (some a) len c) v) (hc : 0 < len ∨ 0 < c) :
    ∃ l, ρ a.block (aver a) = some l ∧ v = .slice (some ⟨l.block, a.off, none⟩) len (capOf l a c) := by
  cases h with
  | flat h => simp [Go.Den.flat] at h
  | sliceOpen hl h => exact ⟨_, h, rfl⟩
  | sliceEmpty => omega
  | sliceExact h => exact ⟨_, h, rfl⟩

theorem VR.slice_len {ρ : Ren} {a : Addr} {len c : Nat} {v : Value} (h : VR ρ (.slice (some a) len c) v) : ∃ a' c', v = .slice (some a') len c' := by
  cases h with
  | flat h => simp [Go.Den.flat] at h
  | sliceOpen hl h => exact ⟨_, _, rfl⟩
  | sliceEmpty => exact ⟨_, _, rfl⟩
  | sliceExact h => exact ⟨_, _, rfl⟩

theorem VR.slice_mk {ρ : Ren} {a : Addr} {len c : Nat} {l : Loc} (h : ρ a.block (aver a) = some l) : VR ρ (.slice (some a) len c) (.slice (some ⟨l.block, a.off, none⟩) len (capOf l a c)) := by
  cases c with
  | zero =>
    cases len with
    | zero => exact .sliceEmpty
    | succ n => exact .sliceOpen (by omega) h
  | succ c => exact .sliceExact h

theorem VR.func_inv {ρ : Ren} {fn : Fn} {f c : Array Value} {v : Value} (h : VR ρ (.func fn f c) v) :
    ∃ f' c', v = .func fn f' c' ∧ fnFlat fn = true ∧ VRL ρ f.toList f'.toList ∧ VRL ρ c.toList c'.toList := by
  cases h with
  | flat h =>
    simp only [Go.Den.flat, Bool.and_eq_true, flatA_iff] at h
    exact ⟨f, c, rfl, h.1, .flat h.2.1, .flat h.2.2⟩
  | func hn hf hc h1 h2 =>
    exact ⟨_, _, rfl, hn, ⟨by simpa using hf, fun i v v' a b => h1 i v v' (by simpa using a) (by simpa using b)⟩, ⟨by simpa using hc, fun i v v' a b => h2 i v v' (by simpa using a) (by simpa using b)⟩⟩

theorem VR.func_mk {ρ : Ren} {fn : Fn} {f c f' c' : Array Value} (hn : fnFlat fn = true) (h1 : VRL ρ f.toList f'.toList) (h2 : VRL ρ c.toList c'.toList) : VR ρ (.func fn f c) (.func fn f' c') :=
  .func hn (by simpa using h1.1) (by simpa using h2.1) (fun i v v' a b => h1.2 i v v' (by simpa using a) (by simpa using b)) (fun i v v' a b => h2.2 i v v' (by simpa using a) (by simpa using b))

theorem VR.bool_inv {ρ : Ren} {b : Bool} {v : Value} (h : VR ρ (.bool b) v) : v = .bool b := h.of_flat (by simp [Go.Den.flat])
theorem VR.int_inv {ρ : Ren} {k : IntKind} {n : Int} {v : Value} (h : VR ρ (.int k n) v) : v = .int k n := h.of_flat (by simp [Go.Den.flat])
theorem VR.string_inv {ρ : Ren} {s : ByteArray} {v : Value} (h : VR ρ (.string s) v) : v = .string s := h.of_flat (by simp [Go.Den.flat])

/-- The cells of a value. -/
theorem VR.cells {ρ : Ren} {v v' : Value} (h : VR ρ v v') : VRL ρ v.cells.toList v'.cells.toList := by
  by_cases hv : ∃ cs, v = .agg cs
  · obtain ⟨cs, rfl⟩ := hv
    obtain ⟨cs', rfl, h2⟩ := h.agg_inv
    exact h2
  · have e : v.cells = #[v] := by cases v <;> first | rfl | (exact (hv ⟨_, rfl⟩).elim)
    have e' : v'.cells = #[v'] := by cases h <;> first | exact e | rfl | (exact (hv ⟨_, rfl⟩).elim)
    rw [e, e']
    exact .cons h (.nil ρ)

/-- A row of cells. lens: how long it was, version by version, the newest first; empty: it has the length that it has. -/
structure CBlk where
  cells : List Value
  elem : TypeId
  esz : Nat
  lens : List Nat
  wver : Nat
  frz : Nat
  mark : Bool := false

inductive ABlk where
  | cells (b : CBlk)
  | map (es : List (Value × Value))

def CBlk.top (b : CBlk) : Nat := b.lens.length - 1
def CBlk.lenAt (b : CBlk) (ver : Nat) : Nat := match b.lens with | [] => b.cells.length | _ => b.lens.getD (b.top - ver) 0

structure CBlk.WF (b : CBlk) : Prop where
  lens : ∀ n ∈ b.lens, n ≤ b.cells.length
  wver : b.wver ≤ b.top

theorem CBlk.WF.lenAt_le {b : CBlk} (h : b.WF) (ver : Nat) : b.lenAt ver ≤ b.cells.length := by
  unfold CBlk.lenAt
  split
  · exact Nat.le_refl _
  · rename_i hl
    by_cases hi : b.top - ver < b.lens.length
    · rw [List.getD_eq_getElem?_getD, List.getElem?_eq_getElem hi]
      exact h.lens _ (List.getElem_mem hi)
    · rw [List.getD_eq_getElem?_getD, List.getElem?_eq_none (by omega)]
      exact Nat.zero_le _

structure AH where
  n : Nat
  t : T ABlk

def AH.get (H : AH) (id : Nat) : Option ABlk := H.t.get id
def AH.push (H : AH) (b : ABlk) : AH := AH.rec (fun n t => forceN n fun n => ⟨Nat.succ n, T.put b 40 t n⟩) H
def AH.set (H : AH) (id : Nat) (b : ABlk) : AH := AH.rec (fun n t => ⟨n, T.put b 40 t id⟩) H

structure AH.WF (H : AH) : Prop where
  low : ∀ id b, H.get id = some b → id < H.n

theorem AH.push_eq (H : AH) (b : ABlk) : H.push b = { n := H.n + 1, t := T.put b 40 H.t H.n } := by
  cases H with
  | mk n t => exact forceN_eq n fun n => AH.mk (Nat.succ n) (T.put b 40 t n)
theorem AH.set_eq (H : AH) (id : Nat) (b : ABlk) : H.set id b = { n := H.n, t := T.put b 40 H.t id } := by cases H; rfl

theorem AH.get_push {H : AH} (h : okKey H.n = true) (b : ABlk) (id : Nat) : (H.push b).get id = if id = H.n then some b else H.get id := by
  simp [AH.get, AH.push_eq, T.get_put' h]

theorem AH.get_set {H : AH} {k : Nat} (h : okKey k = true) (b : ABlk) (id : Nat) : (H.set k b).get id = if id = k then some b else H.get id := by
  simp [AH.get, AH.set_eq, T.get_put' h]

/-- Where a block's frozen cells end. -/
def hiOf (w : World) (k : Nat) : Nat := match w.heap[k]? with
  | some (.cells _ _ (_, hi)) => hi
  | _ => 0

/-- A row of cells in a world. -/
structure CRel (ρ : Ren) (w : World) (b : CBlk) (ver : Nat) (l : Loc) : Prop where
  shape : ∃ n, w.shape? l.block = some (b.elem, n) ∧ (b.lens = [] → n = b.cells.length) ∧ (b.lens ≠ [] → n = l.cap * b.esz ∧ b.lenAt ver ≤ n) ∧
    (∀ i : Nat, b.frz ≤ i → i < n → w.frozen? ⟨l.block, i, none⟩ = false)
  vals : ∀ (i : Nat) (v : Value), i < b.lenAt ver → b.cells[i]? = some v → ∃ v', w.cell? ⟨l.block, i, none⟩ = some v' ∧ VR ρ v v'
  esz : l.esz = b.esz
  hi : b.mark = false → hiOf w l.block ≤ b.frz

def BRel (ρ : Ren) (w : World) : ABlk → Nat → Loc → Prop
  | .cells b, ver, l => ver ≤ b.top ∧ (b.wver ≤ ver → CRel ρ w b ver l)
  | .map es, ver, l => ver = 0 ∧ ∃ ms clock, w.heap[l.block]? = some (.map ms clock) ∧ ms.size = es.length ∧
      (∀ (i : Nat) (e : Value × Value) (m : MapEntry), es[i]? = some e → ms[i]? = some m → m.key = e.1 ∧ flat e.1 = true ∧ VR ρ e.2 m.val)

structure Rel (ρ : Ren) (B : Nat) (H : AH) (w : World) : Prop where
  blk : ∀ id ver l b, ρ id ver = some l → H.get id = some b → BRel ρ w b ver l
  wf : ∀ id b, H.get id = some (.cells b) → b.WF
  low : ∀ id b, H.get id = some b → id < H.n
  sep : ∀ id ver l id' ver' l', ρ id ver = some l → ρ id' ver' = some l' → l.block = l'.block → id = id'
  bnd : ∀ id ver l, ρ id ver = some l → B ≤ l.block ∧ l.block < w.heap.size
  base : B ≤ w.heap.size

end
end Go.Den
