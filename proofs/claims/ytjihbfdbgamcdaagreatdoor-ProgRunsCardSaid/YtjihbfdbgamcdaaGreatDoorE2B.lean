/-
  THE ENGINE, part B: values by abstract numbers of blocks, the heap of such blocks, and what it means that a world holds them.
-/
import Derived.Test.YtjihbfdbgamcdaaGreatDoorE2A
namespace Go.Den
noncomputable section

def fnFlat : Fn → Bool
  | .yield _ => false
  | _ => true

mutual
/-- No address in it. -/
def flat : Value → Bool
  | .bool _ => true
  | .int _ _ => true
  | .float _ _ => true
  | .complex _ _ _ => true
  | .string _ => true
  | .pointer none => true
  | .slice none _ _ => true
  | .map none => true
  | .chan none => true
  | .nilFunc => true
  | .nilIface => true
  | .func fn f c => fnFlat fn && (flatA f && flatA c)
  | .iface _ v => flat v
  | .agg cs => flatA cs
  | .tuple vs => flatA vs
  | _ => false
def flatA : Array Value → Bool
  | ⟨l⟩ => flatL l
def flatL : List Value → Bool
  | [] => true
  | v :: r => flat v && flatL r
end

theorem flatL_iff (l : List Value) : flatL l = true ↔ ∀ v ∈ l, flat v = true := by
  induction l with
  | nil => simp [flatL]
  | cons a l ih => simp [flatL, ih]

theorem flatA_iff (a : Array Value) : flatA a = true ↔ ∀ v ∈ a.toList, flat v = true := by
  cases a with
  | mk l => simp [flatA, flatL_iff]

/-- Where a version of an abstract block lies. -/
structure Loc where
  block : Nat
  cap : Nat
  esz : Nat

/-- Where the blocks lie; and the cells of the world that never change. -/
structure Ren where
  loc : Nat → Nat → Option Loc
  cell : Nat → Nat → Option Value

instance : CoeFun Ren (fun _ => Nat → Nat → Option Loc) := ⟨Ren.loc⟩

/-- A frozen row of n elements, as a value. -/
@[match_pattern] abbrev FL (n : Nat) (cs : List Value) : Value := .func (.yield n) ⟨cs⟩ ⟨[]⟩
/-- An address within frozen cells, as a value. -/
@[match_pattern] abbrev FP (off : Nat) (cs : List Value) : Value := .func (.yield off) ⟨cs⟩ ⟨[.bool true]⟩
/-- A frozen row that may grow: the number of who holds its room. -/
@[match_pattern] abbrev FO (t n : Nat) (cs : List Value) : Value := .func (.yield n) ⟨cs⟩ ⟨[.map (some t)]⟩
/-- An address of a row that may grow: where it begins. -/
@[match_pattern] abbrev OP (t n : Nat) (cs : List Value) : Value := .func (.yield n) ⟨cs⟩ ⟨[.map (some t), .bool true]⟩
/-- Nobody asks for it. -/
@[match_pattern] abbrev JK : Value := .func (.yield 0) ⟨[]⟩ ⟨[.bool false]⟩

def aver (a : Addr) : Nat := a.spot.getD 0

def Ren.noloc (ρ : Ren) : Ren := ⟨fun _ _ => none, ρ.cell⟩

/-- An abstract value, and what stands for it in a world. A slice's last number: 0: as far as its block goes; c + 1: c. What is frozen holds no live address. -/
inductive VR : Ren → Value → Value → Prop
  | flat {ρ : Ren} {v : Value} (h : flat v = true) : VR ρ v v
  | ptr {ρ : Ren} {a : Addr} {l : Loc} (h : ρ a.block (aver a) = some l) : VR ρ (.pointer (some a)) (.pointer (some ⟨l.block, a.off, none⟩))
  | sliceOpen {ρ : Ren} {a : Addr} {l : Loc} {len : Nat} (hl : 0 < len) (h : ρ a.block (aver a) = some l) : VR ρ (.slice (some a) len 0) (.slice (some ⟨l.block, a.off, none⟩) len (l.cap - a.off / l.esz))
  | sliceEmpty {ρ : Ren} {a a' : Addr} {c' : Nat} : VR ρ (.slice (some a) 0 0) (.slice (some a') 0 c')
  | sliceExact {ρ : Ren} {a : Addr} {l : Loc} {len c : Nat} (h : ρ a.block (aver a) = some l) : VR ρ (.slice (some a) len (c + 1)) (.slice (some ⟨l.block, a.off, none⟩) len c)
  | map {ρ : Ren} {r : Nat} {l : Loc} (h : ρ r 0 = some l) : VR ρ (.map (some r)) (.map (some l.block))
  | func {ρ : Ren} {fn : Fn} {f c f' c' : Array Value} (hn : fnFlat fn = true) (hf : f.size = f'.size) (hc : c.size = c'.size)
      (h1 : ∀ (i : Nat) (v v' : Value), f[i]? = some v → f'[i]? = some v' → VR ρ v v') (h2 : ∀ (i : Nat) (v v' : Value), c[i]? = some v → c'[i]? = some v' → VR ρ v v') : VR ρ (.func fn f c) (.func fn f' c')
  | iface {ρ : Ren} {t : TypeId} {v v' : Value} (h : VR ρ v v') : VR ρ (.iface t v) (.iface t v')
  | list {ρ : Ren} {n : Nat} {cs : List Value} {a' : Addr} {c' : Nat} (hn : n ≤ c') (f : Nat → Value) (hc : ∀ i, i < cs.length → ρ.cell a'.block (a'.off + i) = some (f i)) (h : ∀ (i : Nat) (v : Value), cs[i]? = some v → VR ρ.noloc v (f i)) : VR ρ (FL n cs) (.slice (some ⟨a'.block, a'.off, none⟩) n c')
  | own {ρ : Ren} {t n : Nat} {cs : List Value} {l : Loc} (hl : ρ t n = some l) (hn : n ≤ l.cap) (hs : cs.length = n * l.esz) (f : Nat → Value) (hc : ∀ i, i < cs.length → ρ.cell l.block i = some (f i)) (h : ∀ (i : Nat) (v : Value), cs[i]? = some v → VR ρ.noloc v (f i)) : VR ρ (FO t n cs) (.slice (some ⟨l.block, 0, none⟩) n l.cap)
  | optr {ρ : Ren} {t n : Nat} {cs : List Value} {l : Loc} (hl : ρ t n = some l) (hs : cs.length = n * l.esz) (f : Nat → Value) (hc : ∀ i, i < cs.length → ρ.cell l.block i = some (f i)) (h : ∀ (i : Nat) (v : Value), cs[i]? = some v → VR ρ.noloc v (f i)) : VR ρ (OP t n cs) (.pointer (some ⟨l.block, 0, none⟩))
  | listNo {ρ : Ren} {a' : Option Addr} {c' : Nat} : VR ρ (FL 0 []) (.slice a' 0 c')
  | fptr {ρ : Ren} {off : Nat} {cs : List Value} {a' : Addr} (f : Nat → Value) (hc : ∀ i, i < cs.length → ρ.cell a'.block (a'.off + i) = some (f i)) (h : ∀ (i : Nat) (v : Value), cs[i]? = some v → VR ρ.noloc v (f i)) : VR ρ (FP off cs) (.pointer (some ⟨a'.block, a'.off + off, none⟩))
  | junk {ρ : Ren} {v' : Value} : VR ρ JK v'
  | sliceNo {ρ : Ren} {a a' : Addr} : VR ρ (.slice (some a) 0 1) (.slice (some a') 0 0)
  | agg {ρ : Ren} {cs cs' : Array Value} (hs : cs.size = cs'.size) (h : ∀ (i : Nat) (v v' : Value), cs[i]? = some v → cs'[i]? = some v' → VR ρ v v') : VR ρ (.agg cs) (.agg cs')
  | tuple {ρ : Ren} {cs cs' : Array Value} (hs : cs.size = cs'.size) (h : ∀ (i : Nat) (v v' : Value), cs[i]? = some v → cs'[i]? = some v' → VR ρ v v') : VR ρ (.tuple cs) (.tuple cs')

/-- Lists of them. -/
def VRL (ρ : Ren) (l l' : List Value) : Prop := l.length = l'.length ∧ ∀ (i : Nat) (v v' : Value), l[i]? = some v → l'[i]? = some v' → VR ρ v v'

structure Sub (ρ ρ' : Ren) : Prop where
  loc : ∀ id ver l, ρ id ver = some l → ρ' id ver = some l
  cell : ∀ b i v, ρ.cell b i = some v → ρ'.cell b i = some v

instance {ρ ρ' : Ren} : CoeFun (Sub ρ ρ') (fun _ => ∀ id ver l, ρ id ver = some l → ρ' id ver = some l) := ⟨Sub.loc⟩

theorem Sub.refl (ρ : Ren) : Sub ρ ρ := ⟨fun _ _ _ h => h, fun _ _ _ h => h⟩
theorem Sub.trans {a b c : Ren} (h : Sub a b) (h' : Sub b c) : Sub a c := ⟨fun id ver l e => h' id ver l (h id ver l e), fun b i v e => h'.cell b i v (h.cell b i v e)⟩

theorem Sub.noloc {ρ ρ' : Ren} (h : Sub ρ ρ') : Sub ρ.noloc ρ'.noloc := ⟨fun _ _ _ e => (by cases e), h.cell⟩
theorem Sub.noloc_of {ρ ρ' : Ren} (hc : ∀ b i v, ρ.cell b i = some v → ρ'.cell b i = some v) : Sub ρ.noloc ρ'.noloc := ⟨fun _ _ _ e => (by cases e), hc⟩
theorem Sub.of_noloc (ρ : Ren) : Sub ρ.noloc ρ := ⟨fun _ _ _ e => (by cases e), fun _ _ _ e => e⟩

theorem VR.mono {ρ ρ' : Ren} (hs : Sub ρ ρ') {v v' : Value} (h : VR ρ v v') : VR ρ' v v' := by
  induction h generalizing ρ' with
  | flat h => exact .flat h
  | ptr h => exact .ptr (hs _ _ _ h)
  | sliceOpen hl h => exact .sliceOpen hl (hs _ _ _ h)
  | sliceEmpty => exact .sliceEmpty
  | sliceExact h => exact .sliceExact (hs _ _ _ h)
  | map h => exact .map (hs _ _ _ h)
  | func hn hf hc h1 h2 ih1 ih2 => exact .func hn hf hc (fun i v v' a b => ih1 i v v' a b hs) (fun i v v' a b => ih2 i v v' a b hs)
  | list hn f hc h ih => exact .list hn f (fun i hi => hs.cell _ _ _ (hc i hi)) fun i v e => ih i v e hs.noloc
  | own hl hn hsz f hc h ih => exact .own (hs _ _ _ hl) hn hsz f (fun i hi => hs.cell _ _ _ (hc i hi)) fun i v e => ih i v e hs.noloc
  | optr hl hsz f hc h ih => exact .optr (hs _ _ _ hl) hsz f (fun i hi => hs.cell _ _ _ (hc i hi)) fun i v e => ih i v e hs.noloc
  | listNo => exact .listNo
  | fptr f hc h ih => exact .fptr f (fun i hi => hs.cell _ _ _ (hc i hi)) fun i v e => ih i v e hs.noloc
  | junk => exact .junk
  | sliceNo => exact .sliceNo
  | iface h ih => exact .iface (ih hs)
  | agg hs' h ih => exact .agg hs' fun i v v' a b => ih i v v' a b hs
  | tuple hs' h ih => exact .tuple hs' fun i v v' a b => ih i v v' a b hs

theorem VRL.mono {ρ ρ' : Ren} (hs : Sub ρ ρ') {l l' : List Value} (h : VRL ρ l l') : VRL ρ' l l' := ⟨h.1, fun i v v' a b => (h.2 i v v' a b).mono hs⟩

theorem arr_eq_of {cs cs' : Array Value} (hs : cs.size = cs'.size) (h : ∀ (i : Nat) (v v' : Value), cs[i]? = some v → cs'[i]? = some v' → v' = v) : cs' = cs := by
  apply Array.ext hs.symm
  intro i h1 h2
  exact h i cs[i] cs'[i] (Array.getElem?_eq_getElem h2) (Array.getElem?_eq_getElem h1)

theorem VR.of_flat {ρ : Ren} {v v' : Value} (h : VR ρ v v') : Go.Den.flat v = true → v' = v := by
  induction h with
  | flat h => intro _; rfl
  | ptr h => intro hf; simp [Go.Den.flat] at hf
  | sliceOpen hl h => intro hf; simp [Go.Den.flat] at hf
  | sliceEmpty => intro hf; simp [Go.Den.flat] at hf
  | sliceExact h => intro hf; simp [Go.Den.flat] at hf
  | map h => intro hf; simp [Go.Den.flat] at hf
  | func hn hf hc h1 h2 ih1 ih2 =>
    intro hfl
    simp only [Go.Den.flat, Bool.and_eq_true, flatA_iff] at hfl
    have e1 := arr_eq_of hf fun i v v' a b => ih1 i v v' a b (hfl.2.1 v (by simpa using Array.mem_of_getElem? a))
    have e2 := arr_eq_of hc fun i v v' a b => ih2 i v v' a b (hfl.2.2 v (by simpa using Array.mem_of_getElem? a))
    rw [e1, e2]
  | list hn f hc h ih => intro hf; simp [Go.Den.flat, fnFlat] at hf
  | own hl hn hs f hc h ih => intro hf; simp [Go.Den.flat, fnFlat] at hf
  | optr hl hs f hc h ih => intro hf; simp [Go.Den.flat, fnFlat] at hf
  | listNo => intro hf; simp [Go.Den.flat, fnFlat] at hf
  | fptr f hc h ih => intro hf; simp [Go.Den.flat, fnFlat] at hf
  | junk => intro hf; simp [Go.Den.flat, fnFlat] at hf
  | sliceNo => intro hf; simp [Go.Den.flat] at hf
  | iface h ih => intro hf; simp only [Go.Den.flat] at hf; rw [ih hf]
  | agg hs h ih =>
    intro hf
    simp only [Go.Den.flat, flatA_iff] at hf
    rw [arr_eq_of hs fun i v v' a b => ih i v v' a b (hf v (by simpa using Array.mem_of_getElem? a))]
  | tuple hs h ih =>
    intro hf
    simp only [Go.Den.flat, flatA_iff] at hf
    rw [arr_eq_of hs fun i v v' a b => ih i v v' a b (hf v (by simpa using Array.mem_of_getElem? a))]

theorem VRL.of_flat {ρ : Ren} {l l' : List Value} (h : VRL ρ l l') (hf : ∀ v ∈ l, flat v = true) : l' = l := by
  apply List.ext_getElem? 
  intro i
  by_cases hi : i < l.length
  · have hi' : i < l'.length := h.1 ▸ hi
    rw [List.getElem?_eq_getElem hi, List.getElem?_eq_getElem hi']
    exact congrArg some ((h.2 i _ _ (List.getElem?_eq_getElem hi) (List.getElem?_eq_getElem hi')).of_flat (hf _ (List.getElem_mem hi)))
  · have hl := h.1
    have h1 : l.length ≤ i := by omega
    have h2 : l'.length ≤ i := by omega
    rw [List.getElem?_eq_none h1, List.getElem?_eq_none h2]

theorem VRL.nil (ρ : Ren) : VRL ρ [] [] := ⟨rfl, fun i v v' h => by simp at h⟩

theorem VRL.cons {ρ : Ren} {v v' : Value} {l l' : List Value} (h : VR ρ v v') (hl : VRL ρ l l') : VRL ρ (v :: l) (v' :: l') := by
  refine ⟨by simp [hl.1], ?_⟩
  intro i x x' a b
  cases i with
  | zero => simp at a b; subst a; subst b; exact h
  | succ i => simp at a b; exact hl.2 i x x' a b

theorem VRL.uncons {ρ : Ren} {v : Value} {l l2 : List Value} (h : VRL ρ (v :: l) l2) : ∃ v' l', l2 = v' :: l' ∧ VR ρ v v' ∧ VRL ρ l l' := by
  cases l2 with
  | nil => have := h.1; simp at this
  | cons v' l' =>
    refine ⟨v', l', rfl, h.2 0 v v' (by simp) (by simp), by have := h.1; simpa using this, ?_⟩
    intro i x x' a b
    exact h.2 (i + 1) x x' (by simpa using a) (by simpa using b)

theorem VRL.unnil {ρ : Ren} {l2 : List Value} (h : VRL ρ [] l2) : l2 = [] := by
  cases l2 with
  | nil => rfl
  | cons a b => have := h.1; simp at this

theorem VRL.append {ρ : Ren} {a b a' b' : List Value} (h : VRL ρ a a') (h' : VRL ρ b b') : VRL ρ (a ++ b) (a' ++ b') := by
  refine ⟨by simp [h.1, h'.1], ?_⟩
  intro i v v' x y
  by_cases hi : i < a.length
  · rw [List.getElem?_append_left hi] at x
    rw [List.getElem?_append_left (h.1 ▸ hi)] at y
    exact h.2 i v v' x y
  · rw [List.getElem?_append_right (by omega)] at x
    rw [List.getElem?_append_right (by have := h.1; omega), ← h.1] at y
    exact h'.2 _ v v' x y

theorem VRL.set {ρ : Ren} {a a' : List Value} (h : VRL ρ a a') {v v' : Value} (hv : VR ρ v v') (k : Nat) : VRL ρ (a.set k v) (a'.set k v') := by
  refine ⟨by simp [h.1], ?_⟩
  intro i x x' e e'
  rw [List.getElem?_set] at e e'
  have := h.1
  split at e
  · rename_i hk
    rw [if_pos hk] at e'
    split at e
    · split at e'
      · simp at e e'; subst e; subst e'; exact hv
      · simp at e'
    · simp at e
  · rename_i hk
    rw [if_neg hk] at e'
    exact h.2 i x x' e e'

theorem VRL.take {ρ : Ren} {a a' : List Value} (h : VRL ρ a a') (k : Nat) : VRL ρ (a.take k) (a'.take k) := by
  refine ⟨by simp [h.1], ?_⟩
  intro i x x' e e'
  rw [List.getElem?_take] at e e'
  split at e
  · rename_i hk; rw [if_pos hk] at e'; exact h.2 i x x' e e'
  · simp at e

theorem VRL.drop {ρ : Ren} {a a' : List Value} (h : VRL ρ a a') (k : Nat) : VRL ρ (a.drop k) (a'.drop k) := by
  refine ⟨by simp [h.1], ?_⟩
  intro i x x' e e'
  rw [List.getElem?_drop] at e e'
  exact h.2 _ x x' e e'

theorem VRL.flat {ρ : Ren} {l : List Value} (h : ∀ v ∈ l, flat v = true) : VRL ρ l l := by
  refine ⟨rfl, ?_⟩
  intro i v v' a b
  rw [a] at b
  cases b
  exact .flat (h v (List.mem_of_getElem? a))

theorem VRL.get {ρ : Ren} {a a' : List Value} (h : VRL ρ a a') {i : Nat} {v : Value} (e : a[i]? = some v) : ∃ v', a'[i]? = some v' ∧ VR ρ v v' := by
  have hi : i < a.length := by
    rcases Nat.lt_or_ge i a.length with h | h
    · exact h
    · rw [List.getElem?_eq_none h] at e; cases e
  have hi' : i < a'.length := h.1 ▸ hi
  exact ⟨a'[i], List.getElem?_eq_getElem hi', h.2 i _ _ e (List.getElem?_eq_getElem hi')⟩

theorem VR.agg_inv {ρ : Ren} {cs : Array Value} {v : Value} (h : VR ρ (.agg cs) v) : ∃ cs', v = .agg cs' ∧ VRL ρ cs.toList cs'.toList := by
  cases h with
  | flat h =>
    simp only [Go.Den.flat, flatA_iff] at h
    exact ⟨cs, rfl, .flat h⟩
  | agg hs h => exact ⟨_, rfl, by simpa using hs, fun i v v' a b => h i v v' (by simpa using a) (by simpa using b)⟩

theorem VR.tuple_inv {ρ : Ren} {cs : Array Value} {v : Value} (h : VR ρ (.tuple cs) v) : ∃ cs', v = .tuple cs' ∧ VRL ρ cs.toList cs'.toList := by
  cases h with
  | flat h =>
    simp only [Go.Den.flat, flatA_iff] at h
    exact ⟨cs, rfl, .flat h⟩
  | tuple hs h => exact ⟨_, rfl, by simpa using hs, fun i v v' a b => h i v v' (by simpa using a) (by simpa using b)⟩

theorem VR.agg_mk {ρ : Ren} {cs cs' : Array Value} (h : VRL ρ cs.toList cs'.toList) : VR ρ (.agg cs) (.agg cs') :=
  .agg (by simpa using h.1) fun i v v' a b => h.2 i v v' (by simpa using a) (by simpa using b)

theorem VR.tuple_mk {ρ : Ren} {cs cs' : Array Value} (h : VRL ρ cs.toList cs'.toList) : VR ρ (.tuple cs) (.tuple cs') :=
  .tuple (by simpa using h.1) fun i v v' a b => h.2 i v v' (by simpa using a) (by simpa using b)

theorem VR.ptr_inv {ρ : Ren} {a : Addr} {v : Value} (h : VR ρ (.pointer (some a)) v) : ∃ l, ρ a.block (aver a) = some l ∧ v = .pointer (some ⟨l.block, a.off, none⟩) := by
  cases h with
  | flat h => simp [Go.Den.flat] at h
  | ptr h => exact ⟨_, h, rfl⟩

theorem VR.map_inv {ρ : Ren} {r : Nat} {v : Value} (h : VR ρ (.map (some r)) v) : ∃ l, ρ r 0 = some l ∧ v = .map (some l.block) := by
  cases h with
  | flat h => simp [Go.Den.flat] at h
  | map h => exact ⟨_, h, rfl⟩

/-- The concrete room of a slice whose last number is c. -/
def capOf (l : Loc) (a : Addr) (c : Nat) : Nat := match c with | 0 => l.cap - a.off / l.esz | c + 1 => c

theorem VR.slice_inv {ρ : Ren} {a : Addr} {len c : Nat} {v : Value} (h : VR ρ (.slice (some a) len c) v) (hc : 0 < len ∨ 1 < c) :
    ∃ l, ρ a.block (aver a) = some l ∧ v = .slice (some ⟨l.block, a.off, none⟩) len (capOf l a c) := by
  cases h with
  | sliceNo => omega
  | flat h => simp [Go.Den.flat] at h
  | sliceOpen hl h => exact ⟨_, h, rfl⟩
  | sliceEmpty => omega
  | sliceExact h => exact ⟨_, h, rfl⟩

theorem VR.slice_len {ρ : Ren} {a : Addr} {len c : Nat} {v : Value} (h : VR ρ (.slice (some a) len c) v) : ∃ a' c', v = .slice (some a') len c' := by
  cases h with
  | flat h => simp [Go.Den.flat] at h
  | sliceOpen hl h => exact ⟨_, _, rfl⟩
  | sliceEmpty => exact ⟨_, _, rfl⟩
  | sliceNo => exact ⟨_, _, rfl⟩
  | sliceExact h => exact ⟨_, _, rfl⟩

theorem VR.slice_mk {ρ : Ren} {a : Addr} {len c : Nat} {l : Loc} (h : ρ a.block (aver a) = some l) : VR ρ (.slice (some a) len c) (.slice (some ⟨l.block, a.off, none⟩) len (capOf l a c)) := by
  cases c with
  | zero =>
    cases len with
    | zero => exact .sliceEmpty
    | succ n => exact .sliceOpen (by omega) h
  | succ c => exact .sliceExact h

theorem VR.func_inv {ρ : Ren} {fn : Fn} {f c : Array Value} {v : Value} (h : VR ρ (.func fn f c) v) (hfn : fnFlat fn = true) :
    ∃ f' c', v = .func fn f' c' ∧ fnFlat fn = true ∧ VRL ρ f.toList f'.toList ∧ VRL ρ c.toList c'.toList := by
  cases h with
  | list hn f hc h => cases hfn
  | own hl hn hs f hc h => cases hfn
  | optr hl hs f hc h => cases hfn
  | listNo => cases hfn
  | fptr f hc h => cases hfn
  | junk => cases hfn
  | flat h =>
    simp only [Go.Den.flat, Bool.and_eq_true, flatA_iff] at h
    exact ⟨f, c, rfl, h.1, .flat h.2.1, .flat h.2.2⟩
  | func hn hf hc h1 h2 =>
    exact ⟨_, _, rfl, hn, ⟨by simpa using hf, fun i v v' a b => h1 i v v' (by simpa using a) (by simpa using b)⟩, ⟨by simpa using hc, fun i v v' a b => h2 i v v' (by simpa using a) (by simpa using b)⟩⟩

theorem VR.func_mk {ρ : Ren} {fn : Fn} {f c f' c' : Array Value} (hn : fnFlat fn = true) (h1 : VRL ρ f.toList f'.toList) (h2 : VRL ρ c.toList c'.toList) : VR ρ (.func fn f c) (.func fn f' c') :=
  .func hn (by simpa using h1.1) (by simpa using h2.1) (fun i v v' a b => h1.2 i v v' (by simpa using a) (by simpa using b)) (fun i v v' a b => h2.2 i v v' (by simpa using a) (by simpa using b))

theorem VR.bool_inv {ρ : Ren} {b : Bool} {v : Value} (h : VR ρ (.bool b) v) : v = .bool b := h.of_flat (by simp [Go.Den.flat])
theorem VR.int_inv {ρ : Ren} {k : IntKind} {n : Int} {v : Value} (h : VR ρ (.int k n) v) : v = .int k n := h.of_flat (by simp [Go.Den.flat])
theorem VR.string_inv {ρ : Ren} {s : ByteArray} {v : Value} (h : VR ρ (.string s) v) : v = .string s := h.of_flat (by simp [Go.Den.flat])

theorem VR.fptr_inv {ρ : Ren} {off : Nat} {cs : List Value} {v' : Value} (h : VR ρ (FP off cs) v') :
    ∃ (b o : Nat) (f : Nat → Value), v' = .pointer (some ⟨b, o + off, none⟩) ∧ (∀ i, i < cs.length → ρ.cell b (o + i) = some (f i)) ∧ ∀ (i : Nat) (v : Value), cs[i]? = some v → VR ρ.noloc v (f i) := by
  cases h with
  | flat h => simp [Go.Den.flat, fnFlat] at h
  | func hn => cases hn
  | @fptr _ _ _ a' f hc h => exact ⟨a'.block, a'.off, f, rfl, hc, h⟩

theorem VR.list_inv {ρ : Ren} {n : Nat} {cs : List Value} {v' : Value} (h : VR ρ (FL n cs) v') :
    (∃ (a' : Option Addr) (c' : Nat), n = 0 ∧ cs = [] ∧ v' = .slice a' 0 c') ∨
    ∃ (b o c' : Nat) (f : Nat → Value), v' = .slice (some ⟨b, o, none⟩) n c' ∧ n ≤ c' ∧ (∀ i, i < cs.length → ρ.cell b (o + i) = some (f i)) ∧ ∀ (i : Nat) (v : Value), cs[i]? = some v → VR ρ.noloc v (f i) := by
  cases h with
  | flat h => simp [Go.Den.flat, fnFlat] at h
  | func hn => cases hn
  | @list _ _ _ a' c' hn f hc h => exact .inr ⟨a'.block, a'.off, c', f, rfl, hn, hc, h⟩
  | @listNo _ a' c' => exact .inl ⟨a', c', rfl, rfl, rfl⟩

theorem VR.own_inv {ρ : Ren} {t n : Nat} {cs : List Value} {v' : Value} (h : VR ρ (FO t n cs) v') :
    ∃ (l : Loc) (f : Nat → Value), ρ t n = some l ∧ n ≤ l.cap ∧ cs.length = n * l.esz ∧ v' = .slice (some ⟨l.block, 0, none⟩) n l.cap ∧ (∀ i, i < cs.length → ρ.cell l.block i = some (f i)) ∧ ∀ (i : Nat) (v : Value), cs[i]? = some v → VR ρ.noloc v (f i) := by
  cases h with
  | flat h => simp [Go.Den.flat, fnFlat] at h
  | func hn => cases hn
  | own hl hn hs f hc h => exact ⟨_, f, hl, hn, hs, rfl, hc, h⟩

theorem VR.optr_inv {ρ : Ren} {t n : Nat} {cs : List Value} {v' : Value} (h : VR ρ (OP t n cs) v') :
    ∃ (l : Loc) (f : Nat → Value), ρ t n = some l ∧ cs.length = n * l.esz ∧ v' = .pointer (some ⟨l.block, 0, none⟩) ∧ (∀ i, i < cs.length → ρ.cell l.block i = some (f i)) ∧ ∀ (i : Nat) (v : Value), cs[i]? = some v → VR ρ.noloc v (f i) := by
  cases h with
  | flat h => simp [Go.Den.flat, fnFlat] at h
  | func hn => cases hn
  | optr hl hs f hc h => exact ⟨_, f, hl, hs, rfl, hc, h⟩

theorem VR.list_len {ρ : Ren} {n : Nat} {cs : List Value} {v' : Value} (h : VR ρ (FL n cs) v') : ∃ a' c', v' = .slice a' n c' := by
  rcases h.list_inv with ⟨a', c', rfl, _, h1⟩ | ⟨b, o, c', f, h1, _⟩
  · exact ⟨_, _, h1⟩
  · exact ⟨_, _, h1⟩

/-- Is it junk? -/
def isJK : Value → Bool
  | JK => true
  | _ => false

/-- The cells of a value. -/
theorem VR.cells {ρ : Ren} {v v' : Value} (h : VR ρ v v') (hj : isJK v = false) : VRL ρ v.cells.toList v'.cells.toList := by
  by_cases hv : ∃ cs, v = .agg cs
  · obtain ⟨cs, rfl⟩ := hv
    obtain ⟨cs', rfl, h2⟩ := h.agg_inv
    exact h2
  · have e : v.cells = #[v] := by cases v <;> first | rfl | (exact (hv ⟨_, rfl⟩).elim)
    have e' : v'.cells = #[v'] := by cases h <;> first | exact e | rfl | (exact (hv ⟨_, rfl⟩).elim) | (simp [isJK] at hj)
    rw [e, e']
    exact .cons h (.nil ρ)

/- LIVE ADDRESSES -/

mutual
/-- Is there no live address in it? -/
def noRefs : Value → Bool
  | .pointer (some _) | .slice _ _ _ | .map (some _) | .chan (some _) => false
  | .func fn f c => bif fnFlat fn then noRefsA f && noRefsA c else noRefsA c
  | .iface _ v => noRefs v
  | .agg cs => noRefsA cs
  | .tuple vs => noRefsA vs
  | _ => true
def noRefsA : Array Value → Bool
  | ⟨l⟩ => noRefsL l
def noRefsL : List Value → Bool
  | [] => true
  | v :: r => noRefs v && noRefsL r
end

theorem noRefsL_iff (l : List Value) : noRefsL l = true ↔ ∀ v ∈ l, noRefs v = true := by
  induction l with
  | nil => simp [noRefsL]
  | cons a l ih => simp [noRefsL, ih]

theorem noRefsA_iff (a : Array Value) : noRefsA a = true ↔ ∀ v ∈ a.toList, noRefs v = true := by
  cases a with
  | mk l => simp [noRefsA, noRefsL_iff]

theorem noRefs_get {a : Array Value} (h : noRefsA a = true) {i : Nat} {v : Value} (e : a[i]? = some v) : noRefs v = true :=
  (noRefsA_iff a).1 h v (by simpa using Array.mem_of_getElem? e)

/-- What holds no live address doesn't hang on where blocks lie. -/
theorem VR.reloc {ρ ρ2 : Ren} (hc : ∀ b i v, ρ.cell b i = some v → ρ2.cell b i = some v) {v v' : Value} (h : VR ρ v v') (hn : noRefs v = true) : VR ρ2 v v' := by
  induction h generalizing ρ2 with
  | flat h => exact .flat h
  | ptr h => simp [noRefs] at hn
  | sliceOpen hl h => simp [noRefs] at hn
  | sliceEmpty => simp [noRefs] at hn
  | sliceExact h => simp [noRefs] at hn
  | map h => simp [noRefs] at hn
  | func hfn hf hc' h1 h2 ih1 ih2 =>
    simp only [noRefs, hfn, cond_true, Bool.and_eq_true] at hn
    exact .func hfn hf hc' (fun i v v' a b => ih1 i v v' a b hc (noRefs_get hn.1 a)) (fun i v v' a b => ih2 i v v' a b hc (noRefs_get hn.2 a))
  | list hn' f hc' h ih => exact .list hn' f (fun i hi => hc _ _ _ (hc' i hi)) fun i v e => (h i v e).mono (Sub.noloc_of hc)
  | own hl hn' hs f hc' h ih => simp [noRefs, fnFlat, noRefsA, noRefsL] at hn
  | optr hl hs f hc' h ih => simp [noRefs, fnFlat, noRefsA, noRefsL] at hn
  | listNo => exact .listNo
  | fptr f hc' h ih => exact .fptr f (fun i hi => hc _ _ _ (hc' i hi)) fun i v e => (h i v e).mono (Sub.noloc_of hc)
  | junk => exact .junk
  | sliceNo => simp [noRefs] at hn
  | iface h ih => simp only [noRefs] at hn; exact .iface (ih hc hn)
  | agg hs' h ih => simp only [noRefs] at hn; exact .agg hs' fun i v v' a b => ih i v v' a b hc (noRefs_get hn a)
  | tuple hs' h ih => simp only [noRefs] at hn; exact .tuple hs' fun i v v' a b => ih i v v' a b hc (noRefs_get hn a)

/-- A row of cells. lens: how long it was, version by version, the newest first; empty: it has the length that it has. -/
structure CBlk where
  cells : List Value
  elem : TypeId
  esz : Nat
  lens : List Nat
  wver : Nat
  frz : Nat
  mark : Bool := false
  pf : Bool := false

inductive ABlk where
  | cells (b : CBlk)
  | map (es : List (Value × Value))
  | tok (m : Nat) (elem : TypeId) (esz : Nat)

def CBlk.top (b : CBlk) : Nat := b.lens.length - 1
def CBlk.lenAt (b : CBlk) (ver : Nat) : Nat := match b.lens with | [] => b.cells.length | _ => b.lens.getD (b.top - ver) 0

structure CBlk.WF (b : CBlk) : Prop where
  lens : ∀ n ∈ b.lens, n ≤ b.cells.length
  wver : b.wver ≤ b.top
  pf : b.pf = true → noRefsL b.cells = true

theorem CBlk.WF.lenAt_le {b : CBlk} (h : b.WF) (ver : Nat) : b.lenAt ver ≤ b.cells.length := by
  unfold CBlk.lenAt
  split
  · exact Nat.le_refl _
  · rename_i hl
    by_cases hi : b.top - ver < b.lens.length
    · rw [List.getD_eq_getElem?_getD, List.getElem?_eq_getElem hi]
      exact h.lens _ (List.getElem_mem hi)
    · rw [List.getD_eq_getElem?_getD, List.getElem?_eq_none (by omega)]
      exact Nat.zero_le _

structure AH where
  n : Nat
  t : T ABlk

def AH.get (H : AH) (id : Nat) : Option ABlk := H.t.get id
def AH.push (H : AH) (b : ABlk) : AH := AH.rec (fun n t => forceN n fun n => ⟨Nat.succ n, T.put b 40 t n⟩) H
def AH.set (H : AH) (id : Nat) (b : ABlk) : AH := AH.rec (fun n t => ⟨n, T.put b 40 t id⟩) H

structure AH.WF (H : AH) : Prop where
  low : ∀ id b, H.get id = some b → id < H.n

theorem AH.push_eq (H : AH) (b : ABlk) : H.push b = { n := H.n + 1, t := T.put b 40 H.t H.n } := by
  cases H with
  | mk n t => exact forceN_eq n fun n => AH.mk (Nat.succ n) (T.put b 40 t n)
theorem AH.set_eq (H : AH) (id : Nat) (b : ABlk) : H.set id b = { n := H.n, t := T.put b 40 H.t id } := by cases H; rfl

theorem AH.get_push {H : AH} (h : okKey H.n = true) (b : ABlk) (id : Nat) : (H.push b).get id = if id = H.n then some b else H.get id := by
  simp [AH.get, AH.push_eq, T.get_put' h]

theorem AH.get_set {H : AH} {k : Nat} (h : okKey k = true) (b : ABlk) (id : Nat) : (H.set k b).get id = if id = k then some b else H.get id := by
  simp [AH.get, AH.set_eq, T.get_put' h]

/-- Where a block's frozen cells end. -/
def hiOf (w : World) (k : Nat) : Nat := match w.heap[k]? with
  | some (.cells _ _ (_, hi)) => hi
  | _ => 0

/-- A row of cells in a world. -/
structure CRel (ρ : Ren) (w : World) (b : CBlk) (ver : Nat) (l : Loc) : Prop where
  shape : ∃ n, w.shape? l.block = some (b.elem, n) ∧ (b.lens = [] → n = b.cells.length) ∧ (b.lens ≠ [] → n = l.cap * b.esz ∧ b.lenAt ver ≤ n) ∧
    (∀ i : Nat, b.frz ≤ i → i < n → w.frozen? ⟨l.block, i, none⟩ = false)
  vals : ∀ (i : Nat) (v : Value), i < b.lenAt ver → b.cells[i]? = some v → ∃ v', w.cell? ⟨l.block, i, none⟩ = some v' ∧ VR ρ v v'
  esz : l.esz = b.esz
  hi : b.mark = false → hiOf w l.block ≤ b.frz

/-- The room behind a row's first m elements. -/
structure TokRel (w : World) (m : Nat) (elem : TypeId) (l : Loc) : Prop where
  shape : w.shape? l.block = some (elem, l.cap * l.esz)
  le : m ≤ l.cap
  free : ∀ i : Nat, m * l.esz ≤ i → i < l.cap * l.esz → w.frozen? ⟨l.block, i, none⟩ = false
  hi : hiOf w l.block ≤ m * l.esz

def BRel (ρ : Ren) (w : World) : ABlk → Nat → Loc → Prop
  | .cells b, ver, l => ver ≤ b.top ∧ (b.wver ≤ ver → CRel ρ w b ver l)
  | .map es, ver, l => ver = 0 ∧ ∃ ms clock, w.heap[l.block]? = some (.map ms clock) ∧ ms.size = es.length ∧
      (∀ (i : Nat) (e : Value × Value) (m : MapEntry), es[i]? = some e → ms[i]? = some m → m.key = e.1 ∧ flat e.1 = true ∧ VR ρ e.2 m.val)
  | .tok m elem esz, ver, l => ver ≤ m ∧ l.esz = esz ∧ (ver = m → TokRel w m elem l)

/-- How far a block's cells are frozen. -/
def frzAt : ABlk → Loc → Nat → Prop
  | .cells c, _, i => i < c.frz
  | .tok m _ _, l, i => i < m * l.esz
  | .map _, _, _ => False

/-- The frozen cells are there; and no block that may be written bears one beyond what is frozen of it. -/
structure Fz (ρ : Ren) (H : AH) (w : World) : Prop where
  cell : ∀ b i v, ρ.cell b i = some v → w.cell? ⟨b, i, none⟩ = some v
  sep : ∀ id ver l i v b, ρ id ver = some l → ρ.cell l.block i = some v → H.get id = some b → frzAt b l i

structure Rel (ρ : Ren) (B : Nat) (H : AH) (w : World) : Prop where
  blk : ∀ id ver l b, ρ id ver = some l → H.get id = some b → BRel ρ w b ver l
  wf : ∀ id b, H.get id = some (.cells b) → b.WF
  low : ∀ id b, H.get id = some b → id < H.n
  sep : ∀ id ver l id' ver' l', ρ id ver = some l → ρ id' ver' = some l' → l.block = l'.block → id = id'
  bnd : ∀ id ver l, ρ id ver = some l → B ≤ l.block ∧ l.block < w.heap.size
  base : B ≤ w.heap.size
  fz : Fz ρ H w

theorem cell_lt {w : World} {b i : Nat} {v : Value} (h : w.cell? ⟨b, i, none⟩ = some v) : b < w.heap.size := by
  unfold World.cell? at h
  rcases Nat.lt_or_ge b w.heap.size with h1 | h1
  · exact h1
  · simp [Array.getElem?_eq_none h1] at h

theorem Fz.lt {ρ : Ren} {H : AH} {w : World} (h : Fz ρ H w) {b i : Nat} {v : Value} (e : ρ.cell b i = some v) : b < w.heap.size := cell_lt (h.cell b i v e)

end
end Go.Den
