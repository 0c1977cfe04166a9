/-
  THE ENGINE, part R: regions that draw their order: the records of a run in the text's order.
-/
import Derived.Test.YtbpcageamcgehaaEngQ
import Derived.Orders
namespace Go.Den
noncomputable section

variable {P : Program}

/- EQUAL VALUES -/

theorem eqF_true {a b : Int} (h : eqF a b = true) : a = b := by rw [eqF_eq] at h; simpa using h

mutual
theorem beqV_eq : ∀ (a b : Value), beqV a b = true → a = b
  | .bool a, b, h => by cases b <;> simp [beqV] at h; rw [h]
  | .int k a, b, h => by
    cases b <;> simp only [beqV, Bool.and_eq_true] at h <;> first | (cases h; done) | skip
    rw [sameKind_eq h.1, eqF_true h.2]
  | .float k a, b, h => by cases b <;> simp [beqV] at h; rw [h.1, h.2]
  | .complex k a c, b, h => by cases b <;> simp [beqV] at h; rw [h.1, h.2.1, h.2.2]
  | .string a, b, h => by
    cases b <;> simp [beqV] at h
    rename_i s
    congr 1
    cases a; cases s
    simp_all
  | .pointer none, b, h => by cases b <;> first | (simp [beqV] at h; done) | (rename_i x; cases x <;> first | rfl | simp [beqV] at h)
  | .pointer (some a), b, h => by
    cases b <;> first | (simp [beqV] at h; done) | skip
    rename_i x
    cases x <;> simp [beqV] at h
    rename_i c
    cases a; cases c; simp_all
  | .slice none l c, b, h => by
    cases b <;> first | (simp [beqV] at h; done) | skip
    rename_i x _ _
    cases x <;> simp [beqV] at h
    simp_all
  | .slice (some a) l c, b, h => by
    cases b <;> first | (simp [beqV] at h; done) | skip
    rename_i x _ _
    cases x <;> simp [beqV] at h
    rename_i d
    cases a; cases d; simp_all
  | .map a, b, h => by cases b <;> simp [beqV] at h; rw [h]
  | .chan a, b, h => by cases b <;> simp [beqV] at h
  | .nilFunc, b, h => by cases b <;> first | rfl | simp [beqV] at h
  | .nilIface, b, h => by cases b <;> first | rfl | simp [beqV] at h
  | .func f a c, b, h => by
    cases b <;> first | (simp [beqV] at h; done) | skip
    simp only [beqV, Bool.and_eq_true, beq_iff_eq] at h
    rw [h.1, beqA_eq _ _ h.2.1, beqA_eq _ _ h.2.2]
  | .iface t a, b, h => by
    cases b <;> first | (simp [beqV] at h; done) | skip
    simp only [beqV, Bool.and_eq_true, Nat.beq_eq] at h
    rw [h.1, beqV_eq _ _ h.2]
  | .agg a, b, h => by
    cases b <;> first | (simp [beqV] at h; done) | skip
    simp only [beqV] at h
    rw [beqA_eq _ _ h]
  | .tuple a, b, h => by
    cases b <;> first | (simp [beqV] at h; done) | skip
    simp only [beqV] at h
    rw [beqA_eq _ _ h]
theorem beqA_eq : ∀ (a b : Array Value), beqA a b = true → a = b
  | ⟨a⟩, ⟨b⟩, h => by simp only [beqA] at h; rw [beqL_eq _ _ h]
theorem beqL_eq : ∀ (a b : List Value), beqL a b = true → a = b
  | [], b, h => by cases b <;> first | rfl | simp [beqL] at h
  | a :: r, b, h => by
    cases b <;> first | (simp [beqL] at h; done) | skip
    simp only [beqL, Bool.and_eq_true] at h
    rw [beqV_eq _ _ h.1, beqL_eq _ _ h.2]
end

theorem beqP_eq : ∀ (a b : List (Value × Value)), beqP a b = true → a = b
  | [], b, h => by cases b <;> first | rfl | simp [beqP] at h
  | a :: r, b, h => by
    cases b <;> first | (simp [beqP] at h; done) | skip
    simp only [beqP, Bool.and_eq_true] at h
    rw [beqP_eq _ _ h.2.2]
    congr 1
    exact Prod.ext (beqV_eq _ _ h.1) (beqV_eq _ _ h.2.1)

theorem beqB_eq {a b : ABlk} (h : beqB a b = true) : a = b := by
  cases a with
  | cells a =>
    cases b with
    | cells b =>
      simp only [beqB, beqC, Bool.and_eq_true, Nat.beq_eq, beq_iff_eq] at h
      obtain ⟨h1, h2, h3, h4, h5, h6, h7⟩ := h
      cases a; cases b
      simp only at *
      rw [beqL_eq _ _ h1, h2, h3, h4, h5, h6, h7]
    | map b => simp [beqB] at h
  | map a =>
    cases b with
    | cells b => simp [beqB] at h
    | map b => simp only [beqB] at h; rw [beqP_eq _ _ h]

/- THE RECORDS -/

/-- One record, between two moments. -/
def Step1 (P : Program) (rec : Rec) (ops : Array Oper) (k : Nat) (o : Oper) (x : Tr) (e : Env) (H : AH) (e' : Env) (H' : AH) : Prop :=
  x.i = k ∧ x.o = compO P ops o ∧ x.e = e ∧ x.h = H ∧ x.id = H.n ∧ x.want = wantedA (compGuard ops o.guard) e ∧ e' = e.put o.dst x.v ∧
    ((x.want = false ∧ x.v = undef ∧ x.nb = none ∧ x.eff = none ∧ H' = H) ∨
     (x.want = true ∧ ∃ b, stepA P rec e H (comp P o) = .did x.v x.nb b H' ∧ x.eff = if b then some H' else none))

/-- All of them. -/
def Chain (P : Program) (rec : Rec) (ops : Array Oper) : Nat → List Oper → List Tr → Env → AH → Env → AH → Prop
  | _, [], [], e, H, e2, H2 => e2 = e ∧ H2 = H
  | k, o :: r, x :: l, e, H, e2, H2 => ∃ e' H', Step1 P rec ops k o x e H e' H' ∧ Chain P rec ops (k + 1) r l e' H' e2 H2
  | _, _, _, _, _, _, _ => False

theorem opsT_chain {rec : Rec} {ops : Array Oper} : ∀ (l : List Oper) (k : Nat) (e : Env) (H : AH) (e2 : Env) (H2 : AH) (tr : List Tr), opsT P rec (compOps P ops l) k e H = some (e2, H2, tr) → Chain P rec ops k l tr e H e2 H2 := by
  intro l
  induction l with
  | nil => intro k e H e2 H2 tr h; cases h; exact ⟨rfl, rfl⟩
  | cons o r ih =>
    intro k e H e2 H2 tr h
    rw [compOps_cons] at h
    simp only [opsT] at h
    have hguard : (compO P ops o).guard = compGuard ops o.guard := rfl
    have hdst : (compO P ops o).dst = o.dst := rfl
    have hins : (compO P ops o).ins = comp P o := rfl
    rw [hguard, hdst, hins] at h
    cases hw : wantedA (compGuard ops o.guard) e with
    | true =>
      rw [hw, cond_true] at h
      split at h
      · rename_i v nb eff H' hs
        split at h
        · rename_i e3 H3 l3 h3
          cases h
          exact ⟨_, _, ⟨rfl, rfl, rfl, rfl, rfl, hw.symm, rfl, .inr ⟨rfl, eff, hs, rfl⟩⟩, ih _ _ _ _ _ _ h3⟩
        · cases h
      · cases h
    | false =>
      rw [hw, cond_false] at h
      split at h
      · rename_i e3 H3 l3 h3
        cases h
        exact ⟨_, _, ⟨rfl, rfl, rfl, rfl, rfl, hw.symm, rfl, .inl ⟨rfl, rfl, rfl, rfl, rfl⟩⟩, ih _ _ _ _ _ _ h3⟩
      · cases h

/-- What a step does to the heap. -/
theorem did_cases {rec : Rec} {e : Env} {H : AH} {ins : Option Ins} {v : Value} {nb : Option ABlk} {b : Bool} {H' : AH} (h : stepA P rec e H ins = .did v nb b H') :
    ∃ i, ins = some i ∧ ((nb = none ∧ b = false ∧ H' = H ∧ insA P e H H.n i = .simple v none) ∨ (∃ blk, nb = some blk ∧ b = false ∧ okKey H.n = true ∧ H' = H.push blk ∧ insA P e H H.n i = .simple v (some blk)) ∨ (nb = none ∧ b = true)) := by
  cases ins with
  | none => cases h
  | some i =>
    refine ⟨i, rfl, ?_⟩
    change didRes rec H (insA P e H H.n i) = _ at h
    cases hr : insA P e H H.n i with
    | none => rw [hr] at h; cases h
    | simple u ub =>
      rw [hr] at h
      cases ub with
      | none => cases h; exact .inl ⟨rfl, rfl, rfl, rfl⟩
      | some blk =>
        simp only [didRes] at h
        cases hk : okKey H.n with
        | false => rw [hk, cond_false] at h; cases h
        | true => rw [hk, cond_true] at h; cases h; exact .inr (.inl ⟨blk, rfl, rfl, rfl, rfl, rfl⟩)
    | eff u G =>
      rw [hr] at h
      simp only [didRes] at h
      cases hk : Nat.ble H.n G.n with
      | false => rw [hk, cond_false] at h; cases h
      | true => rw [hk, cond_true] at h; cases h; exact .inr (.inr ⟨rfl, rfl⟩)
    | call f args =>
      rw [hr] at h
      simp only [didRes] at h
      unfold didCall at h
      split at h
      · cases h; exact .inr (.inr ⟨rfl, rfl⟩)
      · cases h

theorem Step1.mono {rec : Rec} (hrec : RecOK P rec) {ops : Array Oper} {k : Nat} {o : Oper} {x : Tr} {e e' : Env} {H H' : AH} (h : Step1 P rec ops k o x e H e' H') : H.n ≤ H'.n := by
  obtain ⟨_, _, _, _, _, _, _, h⟩ := h
  rcases h with ⟨_, _, _, _, rfl⟩ | ⟨_, b, hs, _⟩
  · exact Nat.le_refl _
  · have := step_ok (o := o) (e := e) (H := H) hrec
    rw [hs] at this
    exact this.1

/-- If it is no effect: the heap stays, or has one block more. -/
theorem Step1.quiet {rec : Rec} {ops : Array Oper} {k : Nat} {o : Oper} {x : Tr} {e e' : Env} {H H' : AH} (h : Step1 P rec ops k o x e H e' H') (he : x.eff = none) :
    (x.nb = none ∧ H' = H) ∨ ∃ blk, x.nb = some blk ∧ okKey H.n = true ∧ H' = H.push blk := by
  obtain ⟨_, _, _, _, _, _, _, h⟩ := h
  rcases h with ⟨_, _, h1, _, rfl⟩ | ⟨_, b, hs, hb⟩
  · exact .inl ⟨h1, rfl⟩
  · obtain ⟨i, _, hc⟩ := did_cases hs
    rcases hc with ⟨h1, _, h2, _⟩ | ⟨blk, h1, _, h2, h3, _⟩ | ⟨_, h2⟩
    · exact .inl ⟨h1, h2⟩
    · exact .inr ⟨blk, h1, h2, h3⟩
    · rw [h2] at hb; rw [hb] at he; cases he

theorem Step1.eff_some {rec : Rec} {ops : Array Oper} {k : Nat} {o : Oper} {x : Tr} {e e' : Env} {H H' G : AH} (h : Step1 P rec ops k o x e H e' H') (he : x.eff = some G) : G = H' ∧ x.nb = none ∧ x.want = true ∧ ∃ i, comp P o = some i ∧ stepA P rec e H (comp P o) = .did x.v none true H' := by
  obtain ⟨_, _, _, _, _, _, _, h⟩ := h
  rcases h with ⟨_, _, _, h1, _⟩ | ⟨hw, b, hs, hb⟩
  · rw [he] at h1; cases h1
  · cases b with
    | false => rw [he] at hb; cases hb
    | true =>
      rw [he] at hb
      cases hb
      obtain ⟨i, hi, hc⟩ := did_cases hs
      have hn : x.nb = none := by
        rcases hc with ⟨_, h2, _⟩ | ⟨_, _, h2, _⟩ | ⟨h2, _⟩
        · cases h2
        · cases h2
        · exact h2
      rw [hn] at hs
      exact ⟨rfl, hn, hw, i, hi, hs⟩

/-- The moments of a run, by number. -/
theorem Chain.moments {rec : Rec} {ops : Array Oper} : ∀ (l : List Oper) (k : Nat) (tr : List Tr) (e : Env) (H : AH) (e2 : Env) (H2 : AH), Chain P rec ops k l tr e H e2 H2 →
    tr.length = l.length ∧ ∃ (E : Nat → Env) (Hs : Nat → AH), E k = e ∧ Hs k = H ∧ E (k + l.length) = e2 ∧ Hs (k + l.length) = H2 ∧
      ∀ (m : Nat) (o : Oper), l[m]? = some o → ∃ x, tr[m]? = some x ∧ Step1 P rec ops (k + m) o x (E (k + m)) (Hs (k + m)) (E (k + m + 1)) (Hs (k + m + 1)) := by
  intro l
  induction l with
  | nil =>
    intro k tr e H e2 H2 h
    cases tr with
    | nil => obtain ⟨rfl, rfl⟩ := h; exact ⟨rfl, fun _ => e2, fun _ => H2, rfl, rfl, rfl, rfl, fun m o hm => by simp at hm⟩
    | cons x l => exact h.elim
  | cons o r ih =>
    intro k tr e H e2 H2 h
    cases tr with
    | nil => exact h.elim
    | cons x l =>
      obtain ⟨e', H', h1, h2⟩ := h
      obtain ⟨h3, E, Hs, h4, h5, h6, h7, h8⟩ := ih _ _ _ _ _ _ h2
      refine ⟨by simp [h3], fun j => if j = k then e else E j, fun j => if j = k then H else Hs j, by simp, by simp, ?_, ?_, ?_⟩
      · have : ¬ (k + (o :: r).length = k) := by simp
        simp only [this, if_false]
        rw [← h6]; congr 1; simp; omega
      · have : ¬ (k + (o :: r).length = k) := by simp
        simp only [this, if_false]
        rw [← h7]; congr 1; simp; omega
      · intro m o' hm
        cases m with
        | zero =>
          simp at hm
          subst hm
          refine ⟨x, rfl, ?_⟩
          have : ¬ (k + 1 = k) := by omega
          simp only [Nat.add_zero, if_true, this, if_false, h4, h5]
          exact h1
        | succ m =>
          obtain ⟨y, h9, h10⟩ := h8 m o' (by simpa using hm)
          refine ⟨y, by simpa using h9, ?_⟩
          have e1 : ¬ (k + (m + 1) = k) := by omega
          have e2 : ¬ (k + (m + 1) + 1 = k) := by omega
          simp only [e1, e2, if_false]
          rw [show k + (m + 1) = k + 1 + m by omega]
          exact h10

end
end Go.Den
