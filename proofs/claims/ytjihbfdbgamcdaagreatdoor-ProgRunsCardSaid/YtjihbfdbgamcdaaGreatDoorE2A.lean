/-
  THE ENGINE, part A: a persistent table (a binary trie by number), and the laws of reading what was written. (By the recursors themselves: the kernel runs these.)
-/
import Derived.Calls
namespace Go.Den

inductive T (α : Type) : Type where
  | leaf
  | node (l : T α) (v : Option α) (r : T α)

variable {α : Type}

noncomputable def T.get (t : T α) : Nat → Option α :=
  T.rec (fun _ => none) (fun _ v _ gl gr k => Nat.rec v (fun j _ => Nat.rec (gl (Nat.div j 2)) (fun _ _ => gr (Nat.div j 2)) (Nat.mod j 2)) k) t

/-- Depth 40: keys below 2^40 - 1. -/
noncomputable def T.put (a : α) (d : Nat) : T α → Nat → T α :=
  Nat.rec (fun t _ => t) (fun _ ih t k =>
    T.rec (Nat.rec (.node .leaf (some a) .leaf) (fun j _ => Nat.rec (.node (ih .leaf (Nat.div j 2)) none .leaf) (fun _ _ => .node .leaf none (ih .leaf (Nat.div j 2))) (Nat.mod j 2)) k)
      (fun l v r _ _ => Nat.rec (.node l (some a) r) (fun j _ => Nat.rec (.node (ih l (Nat.div j 2)) v r) (fun _ _ => .node l v (ih r (Nat.div j 2))) (Nat.mod j 2)) k) t) d

theorem T.get_leaf (k : Nat) : (T.leaf : T α).get k = none := rfl
theorem T.get_node_zero (l r : T α) (v : Option α) : (T.node l v r).get 0 = v := rfl
theorem T.get_node_even (l r : T α) (v : Option α) (j : Nat) (h : j % 2 = 0) : (T.node l v r).get (j + 1) = l.get (j / 2) := by
  show (Nat.rec (l.get (j / 2)) (fun _ _ => r.get (j / 2)) (j % 2) : Option α) = l.get (j / 2)
  rw [h]
  rfl
theorem T.get_node_odd (l r : T α) (v : Option α) (j : Nat) (h : j % 2 = 1) : (T.node l v r).get (j + 1) = r.get (j / 2) := by
  show (Nat.rec (l.get (j / 2)) (fun _ _ => r.get (j / 2)) (j % 2) : Option α) = r.get (j / 2)
  rw [h]
  rfl
theorem T.put_leaf_zero (a : α) (d : Nat) : T.put a (d + 1) .leaf 0 = .node .leaf (some a) .leaf := rfl
theorem T.put_leaf_even (a : α) (d j : Nat) (h : j % 2 = 0) : T.put a (d + 1) .leaf (j + 1) = .node (T.put a d .leaf (j / 2)) none .leaf := by
  show (Nat.rec (.node (T.put a d .leaf (j / 2)) none .leaf) (fun _ _ => .node .leaf none (T.put a d .leaf (j / 2))) (j % 2) : T α) = _
  rw [h]
  rfl
theorem T.put_leaf_odd (a : α) (d j : Nat) (h : j % 2 = 1) : T.put a (d + 1) .leaf (j + 1) = .node .leaf none (T.put a d .leaf (j / 2)) := by
  show (Nat.rec (.node (T.put a d .leaf (j / 2)) none .leaf) (fun _ _ => .node .leaf none (T.put a d .leaf (j / 2))) (j % 2) : T α) = _
  rw [h]
  rfl
theorem T.put_node_zero (a : α) (d : Nat) (l r : T α) (v : Option α) : T.put a (d + 1) (.node l v r) 0 = .node l (some a) r := rfl
theorem T.put_node_even (a : α) (d j : Nat) (l r : T α) (v : Option α) (h : j % 2 = 0) : T.put a (d + 1) (.node l v r) (j + 1) = .node (T.put a d l (j / 2)) v r := by
  show (Nat.rec (.node (T.put a d l (j / 2)) v r) (fun _ _ => .node l v (T.put a d r (j / 2))) (j % 2) : T α) = _
  rw [h]
  rfl
theorem T.put_node_odd (a : α) (d j : Nat) (l r : T α) (v : Option α) (h : j % 2 = 1) : T.put a (d + 1) (.node l v r) (j + 1) = .node l v (T.put a d r (j / 2)) := by
  show (Nat.rec (.node (T.put a d l (j / 2)) v r) (fun _ _ => .node l v (T.put a d r (j / 2))) (j % 2) : T α) = _
  rw [h]
  rfl

theorem T.get_put (a : α) : ∀ (d : Nat) (t : T α) (k : Nat), k + 1 < 2 ^ d → ∀ k', (T.put a d t k).get k' = if k' = k then some a else t.get k' := by
  intro d
  induction d with
  | zero => intro t k h; simp at h
  | succ d ih =>
    intro t k h k'
    have hlt : ∀ j, k = j + 1 → j / 2 + 1 < 2 ^ d := by
      intro j e
      rw [Nat.pow_succ] at h
      omega
    cases t with
    | leaf =>
      cases k with
      | zero =>
        rw [T.put_leaf_zero]
        cases k' with
        | zero => rfl
        | succ j' =>
          rcases Nat.mod_two_eq_zero_or_one j' with e' | e'
          · rw [T.get_node_even _ _ _ _ e']; simp [T.get_leaf]
          · rw [T.get_node_odd _ _ _ _ e']; simp [T.get_leaf]
      | succ j =>
        have hj := hlt j rfl
        rcases Nat.mod_two_eq_zero_or_one j with e | e
        · rw [T.put_leaf_even _ _ _ e]
          cases k' with
          | zero => rw [T.get_node_zero]; simp [T.get_leaf]
          | succ j' =>
            rcases Nat.mod_two_eq_zero_or_one j' with e' | e'
            · rw [T.get_node_even _ _ _ _ e', ih _ _ hj]; simp only [T.get_leaf]; repeat' split
              all_goals first | rfl | (exfalso; omega)
            · rw [T.get_node_odd _ _ _ _ e']; simp only [T.get_leaf]; repeat' split
              all_goals first | rfl | (exfalso; omega)
        · rw [T.put_leaf_odd _ _ _ e]
          cases k' with
          | zero => rw [T.get_node_zero]; simp [T.get_leaf]
          | succ j' =>
            rcases Nat.mod_two_eq_zero_or_one j' with e' | e'
            · rw [T.get_node_even _ _ _ _ e']; simp only [T.get_leaf]; repeat' split
              all_goals first | rfl | (exfalso; omega)
            · rw [T.get_node_odd _ _ _ _ e', ih _ _ hj]; simp only [T.get_leaf]; repeat' split
              all_goals first | rfl | (exfalso; omega)
    | node l v r =>
      cases k with
      | zero =>
        rw [T.put_node_zero]
        cases k' with
        | zero => rfl
        | succ j' =>
          rcases Nat.mod_two_eq_zero_or_one j' with e' | e'
          · simp [T.get_node_even _ _ _ _ e']
          · simp [T.get_node_odd _ _ _ _ e']
      | succ j =>
        have hj := hlt j rfl
        rcases Nat.mod_two_eq_zero_or_one j with e | e
        · rw [T.put_node_even _ _ _ _ _ _ e]
          cases k' with
          | zero => rw [T.get_node_zero, T.get_node_zero]; simp
          | succ j' =>
            rcases Nat.mod_two_eq_zero_or_one j' with e' | e'
            · rw [T.get_node_even _ _ _ _ e', T.get_node_even _ _ _ _ e', ih _ _ hj]; repeat' split
              all_goals first | rfl | (exfalso; omega)
            · rw [T.get_node_odd _ _ _ _ e', T.get_node_odd _ _ _ _ e']; repeat' split
              all_goals first | rfl | (exfalso; omega)
        · rw [T.put_node_odd _ _ _ _ _ _ e]
          cases k' with
          | zero => rw [T.get_node_zero, T.get_node_zero]; simp
          | succ j' =>
            rcases Nat.mod_two_eq_zero_or_one j' with e' | e'
            · rw [T.get_node_even _ _ _ _ e', T.get_node_even _ _ _ _ e']; repeat' split
              all_goals first | rfl | (exfalso; omega)
            · rw [T.get_node_odd _ _ _ _ e', T.get_node_odd _ _ _ _ e', ih _ _ hj]; repeat' split
              all_goals first | rfl | (exfalso; omega)

/-- A number made plain before it is handed on (for the kernel's run). -/
noncomputable def forceN {β : Type} (n : Nat) (K : Nat → β) : β := Nat.rec (K 0) (fun j _ => K (Nat.succ j)) n

theorem forceN_eq {β : Type} (n : Nat) (K : Nat → β) : forceN n K = K n := by cases n <;> rfl

noncomputable def forceI {β : Type} (n : Int) (K : Int → β) : β := Int.rec (fun m => forceN m fun m => K (.ofNat m)) (fun m => forceN m fun m => K (.negSucc m)) n

theorem forceI_eq {β : Type} (n : Int) (K : Int → β) : forceI n K = K n := by
  cases n with
  | ofNat m => exact forceN_eq m fun m => K (.ofNat m)
  | negSucc m => exact forceN_eq m fun m => K (.negSucc m)

/-- Is a key one that the table bears? -/
def okKey (k : Nat) : Bool := Nat.ble k 1099511627774

theorem T.get_put' {k : Nat} (h : okKey k = true) (a : α) (t : T α) (k' : Nat) : (T.put a 40 t k).get k' = if k' = k then some a else t.get k' :=
  T.get_put a 40 t k (by unfold okKey at h; have := Nat.le_of_ble_eq_true h; omega) k'

end Go.Den
