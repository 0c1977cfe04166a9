/-
  THE ENGINE FOR UNKNOWN VALUES, part E: runs of enough fuel; frames and heaps as lists; values without live addresses; calls of what is known.
-/
import Derived.Test.YtdbhfmdndiphcaaE3D
namespace Go.Den
noncomputable section

variable {P : Program} {cfg : Cfg}

/- ENOUGH FUEL -/

def Evt (P : Program) (cfg : Cfg) {R : Type} (F : Rec → Option R) (r : R) : Prop := ∃ n0, ∀ n, n0 ≤ n → F (den P cfg n) = some r
def Ev (P : Program) (cfg : Cfg) (t : Task) (H : AH) (r : Out × AH) : Prop := Evt P cfg (fun rec => rec t H) r

theorem Evt.of {R : Type} {F : Rec → Option R} {r : R} (h : ∀ rec, F rec = some r) : Evt P cfg F r := ⟨0, fun n _ => h _⟩

theorem Ev.step {t : Task} {H : AH} {r : Out × AH} (h : Evt P cfg (fun rec => denStep P cfg rec t H) r) : Ev P cfg t H r := by
  obtain ⟨n0, h⟩ := h
  refine ⟨n0 + 1, fun n hn => ?_⟩
  obtain ⟨m, rfl⟩ : ∃ m, n = m + 1 := ⟨n - 1, by omega⟩
  exact h m (by omega)

theorem Evt.bind {R S : Type} {A : Rec → Option R} {a : R} {F : Rec → Option R → Option S} {r : S} (h : Evt P cfg A a) (k : Evt P cfg (fun rec => F rec (some a)) r) : Evt P cfg (fun rec => F rec (A rec)) r := by
  obtain ⟨n0, h⟩ := h
  obtain ⟨n1, k⟩ := k
  refine ⟨max n0 n1, fun n hn => ?_⟩
  show F (den P cfg n) (A (den P cfg n)) = some r
  rw [h n (by omega)]
  exact k n (by omega)

theorem Evt.mono {R : Type} {F G : Rec → Option R} {r : R} (h : Evt P cfg F r) (hle : ∀ rec, F rec = some r → G rec = some r) : Evt P cfg G r := by
  obtain ⟨n0, h⟩ := h
  exact ⟨n0, fun n hn => hle _ (h n hn)⟩

/-- A way of reckoning where nothing is asked but the plain things. -/
structure Plain (cfg : Cfg) : Prop where
  raw : ∀ f, cfg.raw f = (false, false)

/- FRAMES -/

def SE (b : Env) : List (Nat × Value) → Env
  | [] => b
  | (k, v) :: l => (SE b l).put (some k) v

def E0 (n : Nat) (g : (Nat → Option (List Value)) × Bool) : Env := ⟨n, .leaf, g⟩

theorem put_n (e : Env) (d : Option Tmp) (v : Value) : (e.put d v).n = e.n := by
  cases d with
  | none => rfl
  | some k =>
    cases e with
    | mk n t g =>
      show (bif Nat.blt k n then (⟨n, T.put v 40 t k, g⟩ : Env) else ⟨n, t, g⟩).n = n
      cases Nat.blt k n <;> rfl

theorem put_g (e : Env) (d : Option Tmp) (v : Value) : (e.put d v).g = e.g := by
  cases d with
  | none => rfl
  | some k =>
    cases e with
    | mk n t g =>
      show (bif Nat.blt k n then (⟨n, T.put v 40 t k, g⟩ : Env) else ⟨n, t, g⟩).g = g
      cases Nat.blt k n <;> rfl

@[simp] theorem SE_n (b : Env) (l : List (Nat × Value)) : (SE b l).n = b.n := by
  induction l with
  | nil => rfl
  | cons p l ih => obtain ⟨k, v⟩ := p; simp only [SE, put_n, ih]

@[simp] theorem SE_g (b : Env) (l : List (Nat × Value)) : (SE b l).g = b.g := by
  induction l with
  | nil => rfl
  | cons p l ih => obtain ⟨k, v⟩ := p; simp only [SE, put_g, ih]

@[simp] theorem E0_n (n : Nat) (g : (Nat → Option (List Value)) × Bool) : (E0 n g).n = n := rfl
@[simp] theorem E0_g (n : Nat) (g : (Nat → Option (List Value)) × Bool) : (E0 n g).g = g := rfl

theorem get_put_env (e : Env) (k : Nat) (v : Value) (hn : e.n ≤ 1099511627774) (j : Nat) : (e.put (some k) v).get j = if j = k ∧ k < e.n then v else e.get j := by
  cases e with
  | mk n t g =>
    show (bif Nat.blt k n then (⟨n, T.put v 40 t k, g⟩ : Env) else ⟨n, t, g⟩).get j = _
    cases hq : Nat.blt k n with
    | false =>
      have : ¬ k < n := by intro h; rw [Nat.blt_eq.mpr h] at hq; cases hq
      simp [this]
    | true =>
      have hk : k < n := Nat.blt_eq.mp hq
      simp only [cond_true]
      unfold Env.get
      simp only
      have hkey : okKey k = true := Nat.ble_eq_true_of_le (by simp only at hn; omega)
      rw [T.get_put' hkey]
      by_cases hj : j = k
      · simp [hj, hk]
      · simp [hj]

theorem SE_same {b : Env} {k : Nat} {v : Value} {l : List (Nat × Value)} (hk : k < b.n) (hn : b.n ≤ 1099511627774) : (SE b ((k, v) :: l)).get k = v := by
  show ((SE b l).put (some k) v).get k = v
  rw [get_put_env _ _ _ (by rw [SE_n]; exact hn), SE_n]
  simp [hk]

theorem SE_ne {b : Env} {k j : Nat} {v : Value} {l : List (Nat × Value)} (hj : j ≠ k) (hn : b.n ≤ 1099511627774) : (SE b ((k, v) :: l)).get j = (SE b l).get j := by
  show ((SE b l).put (some k) v).get j = _
  rw [get_put_env _ _ _ (by rw [SE_n]; exact hn)]
  simp [hj]

theorem SE_nil (b : Env) : SE b [] = b := rfl

theorem SE_put (b : Env) (l : List (Nat × Value)) (k : Nat) (v : Value) : (SE b l).put (some k) v = SE b ((k, v) :: l) := rfl
theorem SE_put_none (e : Env) (v : Value) : e.put none v = e := rfl

/-- The arguments in their places. -/
def argl : List Value → Nat → List (Nat × Value) → List (Nat × Value)
  | [], _, acc => acc
  | v :: r, k, acc => argl r (k + 1) ((k, v) :: acc)

theorem argl_env (n : Nat) (g : (Nat → Option (List Value)) × Bool) : ∀ (args : List Value) (k : Nat) (acc : List (Nat × Value)) (t : T Value), k + args.length ≤ n → SE (E0 n g) acc = ⟨n, t, g⟩ → (⟨n, envOf args k t, g⟩ : Env) = SE (E0 n g) (argl args k acc) := by
  intro args
  induction args with
  | nil => intro k acc t _ h; exact h.symm
  | cons v r ih =>
    intro k acc t hk h
    simp only [envOf, argl]
    refine ih (k + 1) ((k, v) :: acc) _ (by simp only [List.length_cons] at hk; omega) ?_
    show (SE (E0 n g) acc).put (some k) v = _
    rw [h]
    show (bif Nat.blt k n then (⟨n, T.put v 40 t k, g⟩ : Env) else ⟨n, t, g⟩) = _
    rw [Nat.blt_eq.mpr (by simp only [List.length_cons] at hk; omega), cond_true]

/- HEAPS -/

theorem T.put_put (a b : ABlk) : ∀ (d : Nat) (t : T ABlk) (k : Nat), T.put a d (T.put b d t k) k = T.put a d t k := by
  intro d
  induction d with
  | zero => intro t k; rfl
  | succ d ih =>
    intro t k
    cases t with
    | leaf =>
      cases k with
      | zero => rfl
      | succ j =>
        rcases Nat.mod_two_eq_zero_or_one j with e | e
        · rw [T.put_leaf_even _ _ _ e, T.put_leaf_even _ _ _ e, T.put_node_even _ _ _ _ _ _ e, ih]
        · rw [T.put_leaf_odd _ _ _ e, T.put_leaf_odd _ _ _ e, T.put_node_odd _ _ _ _ _ _ e, ih]
    | node l v r =>
      cases k with
      | zero => rfl
      | succ j =>
        rcases Nat.mod_two_eq_zero_or_one j with e | e
        · rw [T.put_node_even _ _ _ _ _ _ e, T.put_node_even _ _ _ _ _ _ e, T.put_node_even _ _ _ _ _ _ e, ih]
        · rw [T.put_node_odd _ _ _ _ _ _ e, T.put_node_odd _ _ _ _ _ _ e, T.put_node_odd _ _ _ _ _ _ e, ih]

theorem T.put_comm (a b : ABlk) : ∀ (d : Nat) (t : T ABlk) (k j : Nat), k ≠ j → T.put a d (T.put b d t j) k = T.put b d (T.put a d t k) j := by
  intro d
  induction d with
  | zero => intro t k j _; rfl
  | succ d ih =>
    intro t k j hne
    have h2 : ∀ x y : Nat, k = x + 1 → j = y + 1 → x % 2 = y % 2 → x / 2 ≠ y / 2 := by intro x y h1 h2 h3 h4; omega
    cases t with
    | leaf =>
      cases k with
      | zero =>
        cases j with
        | zero => exact absurd rfl hne
        | succ y =>
          rcases Nat.mod_two_eq_zero_or_one y with e | e
          · rw [T.put_leaf_even _ _ _ e, T.put_node_zero, T.put_leaf_zero, T.put_node_even _ _ _ _ _ _ e]
          · rw [T.put_leaf_odd _ _ _ e, T.put_node_zero, T.put_leaf_zero, T.put_node_odd _ _ _ _ _ _ e]
      | succ x =>
        cases j with
        | zero =>
          rcases Nat.mod_two_eq_zero_or_one x with e | e
          · rw [T.put_leaf_even _ _ _ e, T.put_node_zero, T.put_leaf_zero, T.put_node_even _ _ _ _ _ _ e]
          · rw [T.put_leaf_odd _ _ _ e, T.put_node_zero, T.put_leaf_zero, T.put_node_odd _ _ _ _ _ _ e]
        | succ y =>
          rcases Nat.mod_two_eq_zero_or_one x with e | e <;> rcases Nat.mod_two_eq_zero_or_one y with e' | e'
          · rw [T.put_leaf_even _ _ _ e', T.put_leaf_even _ _ _ e, T.put_node_even _ _ _ _ _ _ e, T.put_node_even _ _ _ _ _ _ e', ih _ _ _ (h2 x y rfl rfl (by omega))]
          · rw [T.put_leaf_odd _ _ _ e', T.put_leaf_even _ _ _ e, T.put_node_even _ _ _ _ _ _ e, T.put_node_odd _ _ _ _ _ _ e']
          · rw [T.put_leaf_even _ _ _ e', T.put_leaf_odd _ _ _ e, T.put_node_odd _ _ _ _ _ _ e, T.put_node_even _ _ _ _ _ _ e']
          · rw [T.put_leaf_odd _ _ _ e', T.put_leaf_odd _ _ _ e, T.put_node_odd _ _ _ _ _ _ e, T.put_node_odd _ _ _ _ _ _ e', ih _ _ _ (h2 x y rfl rfl (by omega))]
    | node l v r =>
      cases k with
      | zero =>
        cases j with
        | zero => exact absurd rfl hne
        | succ y =>
          rcases Nat.mod_two_eq_zero_or_one y with e | e
          · rw [T.put_node_even _ _ _ _ _ _ e, T.put_node_zero, T.put_node_zero, T.put_node_even _ _ _ _ _ _ e]
          · rw [T.put_node_odd _ _ _ _ _ _ e, T.put_node_zero, T.put_node_zero, T.put_node_odd _ _ _ _ _ _ e]
      | succ x =>
        cases j with
        | zero =>
          rcases Nat.mod_two_eq_zero_or_one x with e | e
          · rw [T.put_node_even _ _ _ _ _ _ e, T.put_node_zero, T.put_node_zero, T.put_node_even _ _ _ _ _ _ e]
          · rw [T.put_node_odd _ _ _ _ _ _ e, T.put_node_zero, T.put_node_zero, T.put_node_odd _ _ _ _ _ _ e]
        | succ y =>
          rcases Nat.mod_two_eq_zero_or_one x with e | e <;> rcases Nat.mod_two_eq_zero_or_one y with e' | e'
          · rw [T.put_node_even _ _ _ _ _ _ e', T.put_node_even _ _ _ _ _ _ e, T.put_node_even _ _ _ _ _ _ e, T.put_node_even _ _ _ _ _ _ e', ih _ _ _ (h2 x y rfl rfl (by omega))]
          · rw [T.put_node_odd _ _ _ _ _ _ e', T.put_node_even _ _ _ _ _ _ e, T.put_node_even _ _ _ _ _ _ e, T.put_node_odd _ _ _ _ _ _ e']
          · rw [T.put_node_even _ _ _ _ _ _ e', T.put_node_odd _ _ _ _ _ _ e, T.put_node_odd _ _ _ _ _ _ e, T.put_node_even _ _ _ _ _ _ e']
          · rw [T.put_node_odd _ _ _ _ _ _ e', T.put_node_odd _ _ _ _ _ _ e, T.put_node_odd _ _ _ _ _ _ e, T.put_node_odd _ _ _ _ _ _ e', ih _ _ _ (h2 x y rfl rfl (by omega))]

/-- The heap of a row of blocks. -/
def HPf (H : AH) : List ABlk → AH
  | [] => H
  | b :: l => HPf (H.push b) l

def HP (l : List ABlk) : AH := HPf AH0 l

theorem HP_nil : HP [] = AH0 := rfl

theorem HPf_append (l : List ABlk) (b : ABlk) : ∀ H, HPf H (l ++ [b]) = (HPf H l).push b := by
  induction l with
  | nil => intro H; rfl
  | cons a l ih => intro H; exact ih (H.push a)

theorem HP_push (l : List ABlk) (b : ABlk) : (HP l).push b = HP (l ++ [b]) := (HPf_append l b AH0).symm

theorem HPf_n (l : List ABlk) : ∀ H, (HPf H l).n = H.n + l.length := by
  induction l with
  | nil => intro H; rfl
  | cons a l ih => intro H; simp only [HPf, ih, AH.push_eq, List.length_cons]; omega

theorem HP_n (l : List ABlk) : (HP l).n = l.length := by
  rw [HP, HPf_n]; show 0 + _ = _; omega

theorem HP_get (l : List ABlk) (hl : l.length ≤ 1099511627774) (i : Nat) : (HP l).get i = l[i]? := by
  have : ∀ (m : Nat) (l : List ABlk), l.length = m → l.length ≤ 1099511627774 → (HP l).get i = l[i]? := by
    intro m
    induction m with
    | zero =>
      intro l h _
      have := List.eq_nil_of_length_eq_zero h
      subst this
      rfl
    | succ m ih =>
      intro l h h'
      obtain ⟨l0, b, rfl⟩ : ∃ l0 b, l = l0 ++ [b] := ⟨l.dropLast, l.getLast (by intro h2; subst h2; simp at h), (List.dropLast_concat_getLast _).symm⟩
      simp only [List.length_append, List.length_cons, List.length_nil] at h h'
      rw [← HP_push, AH.get_push (Nat.ble_eq_true_of_le (by rw [HP_n]; omega)), HP_n, ih l0 (by omega) (by omega)]
      by_cases hi : i = l0.length
      · rw [if_pos hi, hi]; simp
      · rw [if_neg hi]
        by_cases hlt : i < l0.length
        · rw [List.getElem?_append_left hlt]
        · rw [List.getElem?_eq_none (by omega), List.getElem?_eq_none (by simp; omega)]
  exact this _ l rfl hl

theorem AH.ext2 {a b : AH} (h1 : a.n = b.n) (h2 : a.t = b.t) : a = b := by
  cases a; cases b; simp only at h1 h2; subst h1; subst h2; rfl

theorem HP_set (l : List ABlk) (i : Nat) (b : ABlk) (hi : i < l.length) : (HP l).set i b = HP (l.set i b) := by
  have : ∀ (m : Nat) (l : List ABlk), l.length = m → i < l.length → (HP l).set i b = HP (l.set i b) := by
    intro m
    induction m with
    | zero => intro l h h'; omega
    | succ m ih =>
      intro l h h'
      obtain ⟨l0, c, rfl⟩ : ∃ l0 c, l = l0 ++ [c] := ⟨l.dropLast, l.getLast (by intro h2; subst h2; simp at h), (List.dropLast_concat_getLast _).symm⟩
      simp only [List.length_append, List.length_cons, List.length_nil] at h h'
      by_cases he : i = l0.length
      · have h1 : (l0 ++ [c]).set i b = l0 ++ [b] := by rw [he]; simp
        rw [h1, ← HP_push, ← HP_push]
        apply AH.ext2
        · simp only [AH.set_eq, AH.push_eq]
        · simp only [AH.set_eq, AH.push_eq, HP_n, he, T.put_put]
      · have h1 : (l0 ++ [c]).set i b = l0.set i b ++ [c] := by rw [List.set_append_left _ _ (by omega)]
        rw [h1, ← HP_push, ← HP_push, ← ih l0 (by omega) (by omega)]
        apply AH.ext2
        · simp only [AH.set_eq, AH.push_eq]
        · simp only [AH.set_eq, AH.push_eq, HP_n]
          exact T.put_comm _ _ _ _ _ _ he
  exact this _ l rfl hi

end
end Go.Den
