/-
  THE ENGINE, part R: regions that draw their order: the records of a run in the text's order.
-/
import Derived.Test.YtjihbfdbgamcdaaGreatDoorE2Q
import Derived.Orders
namespace Go.Den
noncomputable section

variable {P : Program} {G : Nat → Option (List Value)}

/- THE RECORDS -/

/-- One record, between two moments. -/
def Step1 (P : Program) (cs : Calls0) (ops : Array Oper) (k : Nat) (o : Oper) (x : Tr) (e : Env) (H : AH) (e' : Env) (H' : AH) : Prop :=
  x.i = k ∧ x.o = compO P ops o ∧ x.e = e ∧ x.h = H ∧ x.id = H.n ∧ gsel (compGuard ops o.guard) e = some x.want ∧ e' = e.put o.dst x.v ∧
    ((x.want = false ∧ x.v = undef ∧ x.nb = none ∧ x.eff = none ∧ H' = H) ∨
     (x.want = true ∧ ∃ b, stepA P cs e H (comp P o) = .did x.v x.nb b H' x.wr ∧ x.eff = if b then some H' else none))

/-- All of them. -/
def Chain (P : Program) (cs : Calls0) (ops : Array Oper) : Nat → List Oper → List Tr → Env → AH → Env → AH → Prop
  | _, [], [], e, H, e2, H2 => e2 = e ∧ H2 = H
  | k, o :: r, x :: l, e, H, e2, H2 => ∃ e' H', Step1 P cs ops k o x e H e' H' ∧ Chain P cs ops (k + 1) r l e' H' e2 H2
  | _, _, _, _, _, _, _ => False

theorem opsT_chain {cs : Calls0} {ops : Array Oper} : ∀ (l : List Oper) (k : Nat) (e : Env) (H : AH) (e2 : Env) (H2 : AH) (tr : List Tr), opsT P cs (compOps P ops l) k e H = some (e2, H2, tr) → Chain P cs ops k l tr e H e2 H2 := by
  intro l
  induction l with
  | nil => intro k e H e2 H2 tr h; cases h; exact ⟨rfl, rfl⟩
  | cons o r ih =>
    intro k e H e2 H2 tr h
    rw [compOps_cons] at h
    simp only [opsT] at h
    have hguard : (compO P ops o).guard = compGuard ops o.guard := rfl
    have hdst : (compO P ops o).dst = o.dst := rfl
    have hins : (compO P ops o).ins = comp P o := rfl
    rw [hguard, hdst, hins] at h
    cases hw : gsel (compGuard ops o.guard) e with
    | none => rw [hw] at h; cases h
    | some b =>
      rw [hw] at h
      cases b with
      | true =>
        simp only at h
        split at h
        · rename_i v nb eff H' wr hs
          split at h
          · rename_i e3 H3 l3 h3
            cases h
            exact ⟨_, _, ⟨rfl, rfl, rfl, rfl, rfl, hw, rfl, .inr ⟨rfl, eff, hs, rfl⟩⟩, ih _ _ _ _ _ _ h3⟩
          · cases h
        · cases h
      | false =>
        simp only at h
        split at h
        · rename_i e3 H3 l3 h3
          cases h
          exact ⟨_, _, ⟨rfl, rfl, rfl, rfl, rfl, hw, rfl, .inl ⟨rfl, rfl, rfl, rfl, rfl⟩⟩, ih _ _ _ _ _ _ h3⟩
        · cases h

/-- What a step does to the heap. -/
theorem did_cases {cs : Calls0} (hrec : CSOK P G cs) {e : Env} {H : AH} {ins : Option Ins} {v : Value} {nb : Option ABlk} {b : Bool} {H' : AH} {wr : List Nat} (h : stepA P cs e H ins = .did v nb b H' wr) :
    ∃ i, ins = some i ∧ ((nb = none ∧ b = false ∧ H' = H ∧ insA P e H H.n i = .simple v none) ∨ (∃ blk, nb = some blk ∧ b = false ∧ okKey H.n = true ∧ H' = H.push blk ∧ insA P e H H.n i = .simple v (some blk)) ∨
      (nb = none ∧ b = true ∧ H.n ≤ H'.n ∧ (Low H → Fr H H' wr))) := by
  cases ins with
  | none => cases h
  | some i =>
    refine ⟨i, rfl, ?_⟩
    change didRes cs (effWr e i) H (insA P e H H.n i) = _ at h
    cases hr : insA P e H H.n i with
    | none => rw [hr] at h; cases h
    | simple u ub =>
      rw [hr] at h
      cases ub with
      | none => cases h; exact .inl ⟨rfl, rfl, rfl, rfl⟩
      | some blk =>
        simp only [didRes] at h
        cases hk : okKey H.n with
        | false => rw [hk, cond_false] at h; cases h
        | true => rw [hk, cond_true] at h; cases h; exact .inr (.inl ⟨blk, rfl, rfl, rfl, rfl, rfl⟩)
    | eff u H2 =>
      rw [hr] at h
      simp only [didRes] at h
      cases hk : Nat.ble H.n H2.n with
      | false => rw [hk, cond_false] at h; cases h
      | true =>
        rw [hk, cond_true] at h
        cases h
        exact .inr (.inr ⟨rfl, rfl, Nat.le_of_ble_eq_true hk, fun hlow => insA_frame hlow hr⟩)
    | call f args =>
      rw [hr] at h
      simp only [didRes] at h
      obtain ⟨h1, h2, h3⟩ := hrec _ _ _ _ _ _ _ _ h
      exact .inr (.inr ⟨h1, h2, h3.n, h3.frame⟩)

theorem Step1.mono {cs : Calls0} (hrec : CSOK P G cs) {ops : Array Oper} {k : Nat} {o : Oper} {x : Tr} {e e' : Env} {H H' : AH} (h : Step1 P cs ops k o x e H e' H') : H.n ≤ H'.n := by
  obtain ⟨_, _, _, _, _, _, _, h⟩ := h
  rcases h with ⟨_, _, _, _, rfl⟩ | ⟨_, b, hs, _⟩
  · exact Nat.le_refl _
  · obtain ⟨i, _, hc⟩ := did_cases hrec hs
    rcases hc with ⟨_, _, rfl, _⟩ | ⟨blk, _, _, _, rfl, _⟩ | ⟨_, _, h, _⟩
    · exact Nat.le_refl _
    · rw [push_n]; omega
    · exact h

/-- If it is no effect: the heap stays, or has one block more. -/
theorem Step1.quiet {cs : Calls0} (hrec : CSOK P G cs) {ops : Array Oper} {k : Nat} {o : Oper} {x : Tr} {e e' : Env} {H H' : AH} (h : Step1 P cs ops k o x e H e' H') (he : x.eff = none) :
    (x.nb = none ∧ H' = H) ∨ ∃ blk, x.nb = some blk ∧ okKey H.n = true ∧ H' = H.push blk := by
  obtain ⟨_, _, _, _, _, _, _, h⟩ := h
  rcases h with ⟨_, _, h1, _, rfl⟩ | ⟨_, b, hs, hb⟩
  · exact .inl ⟨h1, rfl⟩
  · obtain ⟨i, _, hc⟩ := did_cases hrec hs
    rcases hc with ⟨h1, _, h2, _⟩ | ⟨blk, h1, _, h2, h3, _⟩ | ⟨_, h2, _⟩
    · exact .inl ⟨h1, h2⟩
    · exact .inr ⟨blk, h1, h2, h3⟩
    · rw [h2] at hb; rw [hb] at he; cases he

theorem Step1.eff_some {cs : Calls0} (hrec : CSOK P G cs) {ops : Array Oper} {k : Nat} {o : Oper} {x : Tr} {e e' : Env} {H H' G2 : AH} (h : Step1 P cs ops k o x e H e' H') (he : x.eff = some G2) : G2 = H' ∧ x.nb = none ∧ x.want = true ∧ ∃ i, comp P o = some i ∧ stepA P cs e H (comp P o) = .did x.v none true H' x.wr ∧ (Low H → Fr H H' x.wr) := by
  obtain ⟨_, _, _, _, _, _, _, h⟩ := h
  rcases h with ⟨_, _, _, h1, _⟩ | ⟨hw, b, hs, hb⟩
  · rw [he] at h1; cases h1
  · cases b with
    | false => rw [he] at hb; cases hb
    | true =>
      rw [he] at hb
      cases hb
      obtain ⟨i, hi, hc⟩ := did_cases hrec hs
      have hn : x.nb = none ∧ (Low H → Fr H H' x.wr) := by
        rcases hc with ⟨_, h2, _⟩ | ⟨_, _, h2, _⟩ | ⟨h2, _, _, h3⟩
        · cases h2
        · cases h2
        · exact ⟨h2, h3⟩
      rw [hn.1] at hs
      exact ⟨rfl, hn.1, hw, i, hi, hs, hn.2⟩

/-- The moments of a run, by number. -/
theorem Chain.moments {cs : Calls0} {ops : Array Oper} : ∀ (l : List Oper) (k : Nat) (tr : List Tr) (e : Env) (H : AH) (e2 : Env) (H2 : AH), Chain P cs ops k l tr e H e2 H2 →
    tr.length = l.length ∧ ∃ (E : Nat → Env) (Hs : Nat → AH), E k = e ∧ Hs k = H ∧ E (k + l.length) = e2 ∧ Hs (k + l.length) = H2 ∧
      ∀ (m : Nat) (o : Oper), l[m]? = some o → ∃ x, tr[m]? = some x ∧ Step1 P cs ops (k + m) o x (E (k + m)) (Hs (k + m)) (E (k + m + 1)) (Hs (k + m + 1)) := by
  intro l
  induction l with
  | nil =>
    intro k tr e H e2 H2 h
    cases tr with
    | nil => obtain ⟨rfl, rfl⟩ := h; exact ⟨rfl, fun _ => e2, fun _ => H2, rfl, rfl, rfl, rfl, fun m o hm => by simp at hm⟩
    | cons x l => exact h.elim
  | cons o r ih =>
    intro k tr e H e2 H2 h
    cases tr with
    | nil => exact h.elim
    | cons x l =>
      obtain ⟨e', H', h1, h2⟩ := h
      obtain ⟨h3, E, Hs, h4, h5, h6, h7, h8⟩ := ih _ _ _ _ _ _ h2
      refine ⟨by simp [h3], fun j => if j = k then e else E j, fun j => if j = k then H else Hs j, by simp, by simp, ?_, ?_, ?_⟩
      · have : ¬ (k + (o :: r).length = k) := by simp
        simp only [this, if_false]
        rw [← h6]; congr 1; simp; omega
      · have : ¬ (k + (o :: r).length = k) := by simp
        simp only [this, if_false]
        rw [← h7]; congr 1; simp; omega
      · intro m o' hm
        cases m with
        | zero =>
          simp at hm
          subst hm
          refine ⟨x, rfl, ?_⟩
          have : ¬ (k + 1 = k) := by omega
          simp only [Nat.add_zero, if_true, this, if_false, h4, h5]
          exact h1
        | succ m =>
          obtain ⟨y, h9, h10⟩ := h8 m o' (by simpa using hm)
          refine ⟨y, by simpa using h9, ?_⟩
          have e1 : ¬ (k + (m + 1) = k) := by omega
          have e2 : ¬ (k + (m + 1) + 1 = k) := by omega
          simp only [e1, e2, if_false]
          rw [show k + (m + 1) = k + 1 + m by omega]
          exact h10

end
end Go.Den
