/-
  THE ENGINE, part T: regions that draw their order come to one end.
-/
import Derived.Test.YtjihbfdbgamcdaaGreatDoorE2S
namespace Go.Den
noncomputable section

variable {P : Program} {G : Nat → Option (List Value)}

/- EDGES -/

def bef (ops : Array Oper) (i j : Nat) : Prop := ((Region.before ops).getD j 0).testBit i = true

def maskOf (acc : Array Nat) (o : Oper) : Nat := o.after.foldl (fun s e => if Region.binds .any e then s ||| 2 ^ e.on ||| acc.getD e.on 0 else s) 0

theorem mask_bit {acc : Array Nat} {i : Nat} : ∀ (l : List Edge) (s : Nat), (l.foldl (fun s e => if Region.binds .any e then s ||| 2 ^ e.on ||| acc.getD e.on 0 else s) s).testBit i = true →
    s.testBit i = true ∨ ∃ e ∈ l, Region.binds .any e = true ∧ (e.on = i ∨ (acc.getD e.on 0).testBit i = true) := by
  intro l
  induction l with
  | nil => intro s h; exact .inl h
  | cons e l ih =>
    intro s h
    simp only [List.foldl_cons] at h
    rcases ih _ h with h1 | ⟨e', h1, h2⟩
    · split at h1
      · rename_i hb
        simp only [Nat.testBit_or, Bool.or_eq_true, Nat.testBit_two_pow, decide_eq_true_eq] at h1
        rcases h1 with (h1 | h1) | h1
        · exact .inl h1
        · exact .inr ⟨e, by simp, hb, .inl h1⟩
        · exact .inr ⟨e, by simp, hb, .inr h1⟩
      · exact .inl h1
    · exact .inr ⟨e', by simp [h1], h2⟩

theorem before_fold : ∀ (l : List Oper) (acc : Array Nat), (l.foldl (fun acc o => acc.push (maskOf acc o)) acc).size = acc.size + l.length ∧
    (∀ i, i < acc.size → (l.foldl (fun acc o => acc.push (maskOf acc o)) acc).getD i 0 = acc.getD i 0) ∧
    (∀ (m : Nat) (o : Oper), l[m]? = some o → ∃ acc' : Array Nat, acc'.size = acc.size + m ∧ (∀ i, i < acc'.size → (l.foldl (fun acc o => acc.push (maskOf acc o)) acc).getD i 0 = acc'.getD i 0) ∧
      (l.foldl (fun acc o => acc.push (maskOf acc o)) acc).getD (acc.size + m) 0 = maskOf acc' o) := by
  intro l
  induction l with
  | nil => intro acc; exact ⟨rfl, fun _ _ => rfl, fun m o h => by simp at h⟩
  | cons o l ih =>
    intro acc
    obtain ⟨h1, h2, h3⟩ := ih (acc.push (maskOf acc o))
    simp only [List.foldl_cons]
    have hpush : ∀ i, i < acc.size → (acc.push (maskOf acc o)).getD i 0 = acc.getD i 0 := by
      intro i hi
      have h4 : i < (acc.push (maskOf acc o)).size := by simp; omega
      simp only [Array.getD, h4, hi, dif_pos]
      exact Array.getElem_push_lt hi
    refine ⟨by rw [h1]; simp; omega, fun i hi => by rw [h2 i (by simp; omega), hpush i hi], ?_⟩
    intro m o' hm
    cases m with
    | zero =>
      simp at hm
      subst hm
      refine ⟨acc, rfl, fun i hi => by rw [h2 i (by simp; omega), hpush i hi], ?_⟩
      rw [h2 _ (by simp)]
      simp [Array.getD]
    | succ m =>
      obtain ⟨acc', g1, g2, g3⟩ := h3 m o' (by simpa using hm)
      refine ⟨acc', by rw [g1]; simp; omega, g2, ?_⟩
      rw [← g3]
      congr 1
      simp; omega

theorem before_eq (ops : Array Oper) : Region.before ops = ops.toList.foldl (fun acc o => acc.push (maskOf acc o)) #[] := by
  unfold Region.before
  rw [← Array.foldl_toList]
  rfl

/-- What stands ahead of an operation: one of its edges, or what stands ahead of that. -/
theorem bef_edge {ops : Array Oper} (he : edgesOk ops = true) {i j : Nat} {o : Oper} (ho : ops[j]? = some o) (h : bef ops i j) : ∃ e ∈ o.after.toList, Region.binds .any e = true ∧ e.on < j ∧ (e.on = i ∨ bef ops i e.on) := by
  unfold bef at h
  rw [before_eq] at h
  obtain ⟨_, _, h3⟩ := before_fold ops.toList #[]
  obtain ⟨acc', g1, g2, g3⟩ := h3 j o (by simpa using ho)
  simp only [List.size_toArray, List.length_nil, Nat.zero_add] at g1 g3
  rw [g3] at h
  unfold maskOf at h
  rw [← Array.foldl_toList] at h
  rcases mask_bit _ _ h with h4 | ⟨e, h5, h6, h7⟩
  · simp at h4
  · have hlt : e.on < j := by
      unfold edgesOk at he
      rw [List.all_eq_true] at he
      have h8 := he (o, j) (by rw [List.mem_zipIdx_iff_getElem?]; simpa using ho)
      simp only [List.all_eq_true] at h8
      have h9 := h8 e h5
      rw [h6] at h9
      simpa using h9
    refine ⟨e, h5, h6, hlt, ?_⟩
    rcases h7 with h7 | h7
    · exact .inl h7
    · refine .inr ?_
      unfold bef
      rw [before_eq, g2 e.on (by omega)]
      exact h7

/-- Names: whoever names what another writes stands in a row with it. -/
theorem names_spec {ops : Array Oper} (h : namesOk ops (Region.before ops) = true) {i j : Nat} {o p : Oper} {d : Tmp} (hi : ops[i]? = some o) (hj : ops[j]? = some p) (hne : i ≠ j) (hd : p.dst = some d) (hn : d ∈ namesOf o ops) : bef ops (min i j) (max i j) := by
  unfold namesOk at h
  rw [List.all_eq_true] at h
  have h1 := h (o, i) (by rw [List.mem_zipIdx_iff_getElem?]; simpa using hi)
  rw [List.all_eq_true] at h1
  have h2 := h1 (p, j) (by rw [List.mem_zipIdx_iff_getElem?]; simpa using hj)
  have h3 : (i == j) = false := by simpa using hne
  have h4 : (namesOf o ops).contains d = true := by simpa using hn
  simp only [h3, hd, h4, Bool.false_or, Bool.not_true] at h2
  exact h2

/- CHECKS -/

theorem chained_spec {before : Array Nat} : ∀ (l : List (Nat × AH)), chained before l = true → ∀ (pre : List (Nat × AH)) (i : Nat) (A : AH) (j : Nat) (B : AH) (r : List (Nat × AH)), l = pre ++ (i, A) :: (j, B) :: r → (before.getD j 0).testBit i = true := by
  intro l
  induction l with
  | nil => intro _ pre i A j B r e; simp at e
  | cons p l ih =>
    intro h pre i A j B r e
    cases pre with
    | nil =>
      simp only [List.nil_append, List.cons.injEq] at e
      obtain ⟨rfl, rfl⟩ := e
      simp only [chained, Bool.and_eq_true] at h
      exact h.1
    | cons q pre =>
      simp only [List.cons_append, List.cons.injEq] at e
      obtain ⟨rfl, e⟩ := e
      cases l with
      | nil => simp at e
      | cons p2 l =>
        obtain ⟨a, b⟩ := p
        obtain ⟨c, d⟩ := p2
        simp only [chained, Bool.and_eq_true] at h
        exact ih h.2 pre i A j B r e

theorem mem_effects : ∀ (tr : List Tr) (y : Nat × AH), y ∈ effectsOf tr ↔ ∃ x ∈ tr, x.i = y.1 ∧ x.eff = some y.2 := by
  intro tr
  induction tr with
  | nil => intro y; simp [effectsOf]
  | cons x r ih =>
    intro y
    simp only [effectsOf]
    cases hx : x.eff with
    | none =>
      simp only [ih, List.mem_cons]
      constructor
      · rintro ⟨z, h1, h2⟩; exact ⟨z, .inr h1, h2⟩
      · rintro ⟨z, h1 | h1, h2, h3⟩
        · subst h1; rw [hx] at h3; cases h3
        · exact ⟨z, h1, h2, h3⟩
    | some G =>
      simp only [List.mem_cons, ih]
      constructor
      · rintro (rfl | ⟨z, h1, h2⟩)
        · exact ⟨x, .inl rfl, rfl, hx⟩
        · exact ⟨z, .inr h1, h2⟩
      · rintro ⟨z, h1 | h1, h2, h3⟩
        · subst h1
          left
          rw [hx] at h3
          exact Prod.ext h2.symm (Option.some.inj h3).symm
        · exact .inr ⟨z, h1, h2, h3⟩

theorem lastX_append (X : AH) : ∀ (l : List (Nat × AH)) (j : Nat) (G : AH), lastX X (l ++ [(j, G)]) = G := by
  intro l
  induction l generalizing X with
  | nil => intro j G; rfl
  | cons p l ih => intro j G; obtain ⟨a, b⟩ := p; simp only [List.cons_append, lastX]; exact ih b j G

theorem lastX_heaps (n : Nat) (H2 : AH) (tr : List Tr) (H Z : AH) (effs : List (Nat × AH)) : lastX Z (heaps n H2 tr H effs) = fillHeap H2.n tr (lastX H effs) := by
  unfold heaps
  simp only [List.map_cons, lastX]
  have : ∀ (l : List (Nat × AH)) (G : AH), lastX (fillHeap H2.n tr G) (l.map fun y => (y.1, fillHeap H2.n tr y.2)) = fillHeap H2.n tr (lastX G l) := by
    intro l
    induction l with
    | nil => intro G; rfl
    | cons p l ih => intro G; obtain ⟨a, b⟩ := p; simp only [List.map_cons, lastX]; exact ih b
  exact this effs H

/-- The heap that stands behind the effects done, among the heaps that are looked at. -/
theorem heaps_split (n : Nat) (H2 : AH) (tr : List Tr) (H : AH) (done todo : List (Nat × AH)) : ∃ pre j r, heaps n H2 tr H (done ++ todo) = pre ++ (j, fillHeap H2.n tr (lastX H done)) :: r ∧ (j = n ∨ ∃ G, (j, G) ∈ done) ∧ (∀ y ∈ r, ∃ G, (y.1, G) ∈ todo) := by
  unfold heaps
  have hr : ∀ y ∈ todo.map (fun y => (y.1, fillHeap H2.n tr y.2)), ∃ G, (y.1, G) ∈ todo := by
    intro y hy
    simp only [List.mem_map] at hy
    obtain ⟨z, h1, rfl⟩ := hy
    exact ⟨z.2, h1⟩
  have key : ∀ (done : List (Nat × AH)) (n : Nat) (H : AH), ∃ pre j r, ((n, H) :: (done ++ todo)).map (fun y => (y.1, fillHeap H2.n tr y.2)) = pre ++ (j, fillHeap H2.n tr (lastX H done)) :: r ∧ (j = n ∨ ∃ G, (j, G) ∈ done) ∧ (∀ y ∈ r, ∃ G, (y.1, G) ∈ todo) := by
    intro done
    induction done with
    | nil => intro n H; exact ⟨[], n, _, rfl, .inl rfl, hr⟩
    | cons p done ih =>
      intro n H
      obtain ⟨a, b⟩ := p
      obtain ⟨pre, j, r, h1, h2, h3⟩ := ih a b
      refine ⟨(n, fillHeap H2.n tr H) :: pre, j, r, ?_, ?_, h3⟩
      · simp only [List.cons_append, List.map_cons] at h1 ⊢
        rw [h1]
        rfl
      · rcases h2 with rfl | ⟨G, h2⟩
        · exact .inr ⟨b, by simp⟩
        · exact .inr ⟨G, by simp [h2]⟩
  exact key done n H

end
end Go.Den
