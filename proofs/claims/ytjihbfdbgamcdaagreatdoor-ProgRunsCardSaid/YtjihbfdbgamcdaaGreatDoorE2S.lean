/-
  THE ENGINE, part S: regions that draw their order: heaps, frames and edges of a run.
-/
import Derived.Test.YtjihbfdbgamcdaaGreatDoorE2R
namespace Go.Den
noncomputable section

variable {P : Program} {G : Nat → Option (List Value)}

/- HEAPS -/

theorem Chain.mono {cs : Calls0} (hrec : CSOK P G cs) {ops : Array Oper} : ∀ (l : List Oper) (k : Nat) (tr : List Tr) (e : Env) (H : AH) (e2 : Env) (H2 : AH), Chain P cs ops k l tr e H e2 H2 →
    H.n ≤ H2.n ∧ ∀ z ∈ tr, H.n ≤ z.id ∧ z.id ≤ H2.n ∧ (z.nb ≠ none → z.id < H2.n ∧ okKey z.id = true) := by
  intro l
  induction l with
  | nil =>
    intro k tr e H e2 H2 h
    cases tr with
    | nil => obtain ⟨_, rfl⟩ := h; exact ⟨Nat.le_refl _, fun z hz => by simp at hz⟩
    | cons x l => exact h.elim
  | cons o r ih =>
    intro k tr e H e2 H2 h
    cases tr with
    | nil => exact h.elim
    | cons x l =>
      obtain ⟨e', H', h1, h2⟩ := h
      obtain ⟨h3, h4⟩ := ih _ _ _ _ _ _ h2
      have hm := h1.mono hrec
      refine ⟨by omega, fun z hz => ?_⟩
      simp only [List.mem_cons] at hz
      rcases hz with rfl | hz
      · have hid : z.id = H.n := h1.2.2.2.2.1
        refine ⟨by omega, by omega, fun hnb => ?_⟩
        cases he : z.eff with
        | some G => exact absurd (h1.eff_some hrec he).2.1 hnb
        | none =>
          rcases h1.quiet hrec he with ⟨h5, _⟩ | ⟨blk, _, h6, h7⟩
          · exact absurd h5 hnb
          · rw [h7, push_n] at h3
            rw [hid]
            exact ⟨by omega, h6⟩
      · obtain ⟨h5, h6, h7⟩ := h4 z hz
        exact ⟨by omega, h6, h7⟩

/-- Blocks that are made have each a number of its own. -/
theorem Chain.unique {cs : Calls0} (hrec : CSOK P G cs) {ops : Array Oper} : ∀ (l : List Oper) (k : Nat) (tr : List Tr) (e : Env) (H : AH) (e2 : Env) (H2 : AH), Chain P cs ops k l tr e H e2 H2 →
    ∀ y ∈ tr, ∀ z ∈ tr, y.nb ≠ none → z.nb ≠ none → y.id = z.id → y = z := by
  intro l
  induction l with
  | nil =>
    intro k tr e H e2 H2 h y hy
    cases tr with
    | nil => simp at hy
    | cons x l => exact h.elim
  | cons o r ih =>
    intro k tr e H e2 H2 h
    cases tr with
    | nil => exact h.elim
    | cons x l =>
      obtain ⟨e', H', h1, h2⟩ := h
      obtain ⟨h3, h4⟩ := h2.mono hrec
      have hx : x.nb ≠ none → x.id < H'.n := by
        intro hnb
        have hid : x.id = H.n := h1.2.2.2.2.1
        cases he : x.eff with
        | some G => exact absurd (h1.eff_some hrec he).2.1 hnb
        | none =>
          rcases h1.quiet hrec he with ⟨h5, _⟩ | ⟨blk, _, h6, h7⟩
          · exact absurd h5 hnb
          · rw [h7, push_n]; omega
      intro y hy z hz hyn hzn e
      simp only [List.mem_cons] at hy hz
      rcases hy with rfl | hy <;> rcases hz with rfl | hz
      · rfl
      · have := (h4 z hz).1; have := hx hyn; omega
      · have := (h4 y hy).1; have := hx hzn; omega
      · exact ih _ _ _ _ _ _ h2 y hy z hz hyn hzn e

theorem fill_low (n : Nat) : ∀ (tr : List Tr) (G : AH), (∀ x ∈ tr, x.nb ≠ none → okKey x.id = true) → ∀ id, id < G.n → (fillHeap n tr G).get id = G.get id := by
  intro tr
  induction tr with
  | nil => intro G _ id _; rfl
  | cons x r ih =>
    intro G hk id hid
    have hk' := fun y hy => hk y (List.mem_cons_of_mem x hy)
    simp only [fillHeap]
    cases hnb : x.nb with
    | none => exact ih G hk' id hid
    | some b =>
      simp only
      cases hq : Nat.ble G.n x.id with
      | false => rw [cond_false]; exact ih G hk' id hid
      | true =>
        rw [cond_true]
        have hle := Nat.le_of_ble_eq_true hq
        have h5 := ih { n := G.n, t := T.put b 40 G.t x.id } hk' id hid
        rw [h5]
        simp only [AH.get]
        rw [T.get_put' (hk x (by simp) (by rw [hnb]; simp)), if_neg (by omega)]

theorem fill_keep (n : Nat) : ∀ (tr : List Tr) (G : AH) (id : Nat) (b : ABlk), (∀ x ∈ tr, x.nb ≠ none → okKey x.id = true) → (∀ x ∈ tr, x.nb ≠ none → x.id = id → x.nb = some b) → G.get id = some b → (fillHeap n tr G).get id = some b := by
  intro tr
  induction tr with
  | nil => intro G id b _ _ h; exact h
  | cons x r ih =>
    intro G id b hk hu h
    have hk' := fun y hy => hk y (List.mem_cons_of_mem x hy)
    have hu' := fun y hy => hu y (List.mem_cons_of_mem x hy)
    simp only [fillHeap]
    cases hnb : x.nb with
    | none => exact ih G id b hk' hu' h
    | some c =>
      simp only
      cases hq : Nat.ble G.n x.id with
      | false => rw [cond_false]; exact ih G id b hk' hu' h
      | true =>
        rw [cond_true]
        refine ih _ id b hk' hu' ?_
        simp only [AH.get]
        rw [T.get_put' (hk x (by simp) (by rw [hnb]; simp))]
        split
        · rename_i e
          have := hu x (by simp) (by rw [hnb]; simp) e.symm
          rw [hnb] at this
          exact this
        · exact h

theorem fill_made (n : Nat) : ∀ (tr : List Tr) (G : AH) (y : Tr) (b : ABlk), (∀ x ∈ tr, x.nb ≠ none → okKey x.id = true) → (∀ x ∈ tr, x.nb ≠ none → x.id = y.id → x.nb = some b) → y ∈ tr → y.nb = some b → G.n ≤ y.id → (fillHeap n tr G).get y.id = some b := by
  intro tr
  induction tr with
  | nil => intro G y b _ _ hy; simp at hy
  | cons x r ih =>
    intro G y b hk hu hy hyb hge
    have hk' := fun z hz => hk z (List.mem_cons_of_mem x hz)
    have hu' := fun z hz => hu z (List.mem_cons_of_mem x hz)
    simp only [List.mem_cons] at hy
    rcases hy with rfl | hy
    · simp only [fillHeap, hyb]
      rw [Nat.ble_eq_true_of_le hge, cond_true]
      refine fill_keep n r _ y.id b hk' hu' ?_
      simp only [AH.get]
      rw [T.get_put' (hk y (by simp) (by rw [hyb]; simp)), if_pos rfl]
    · simp only [fillHeap]
      cases hnb : x.nb with
      | none => exact ih G y b hk' hu' hy hyb hge
      | some c =>
        simp only
        cases hq : Nat.ble G.n x.id with
        | false => rw [cond_false]; exact ih G y b hk' hu' hy hyb hge
        | true => rw [cond_true]; exact ih _ y b hk' hu' hy hyb hge

theorem fill_inv (n : Nat) : ∀ (tr : List Tr) (G : AH) (id : Nat) (b : ABlk), (∀ x ∈ tr, x.nb ≠ none → okKey x.id = true) → (fillHeap n tr G).get id = some b → G.get id = some b ∨ ∃ y ∈ tr, y.nb = some b ∧ y.id = id ∧ G.n ≤ id := by
  intro tr
  induction tr with
  | nil => intro G id b _ h; exact .inl h
  | cons x r ih =>
    intro G id b hk h
    have hk' := fun z hz => hk z (List.mem_cons_of_mem x hz)
    simp only [fillHeap] at h
    cases hnb : x.nb with
    | none =>
      rw [hnb] at h
      rcases ih G id b hk' h with h | ⟨y, h1, h2⟩
      · exact .inl h
      · exact .inr ⟨y, by simp [h1], h2⟩
    | some c =>
      rw [hnb] at h
      simp only at h
      cases hq : Nat.ble G.n x.id with
      | false =>
        rw [hq, cond_false] at h
        rcases ih G id b hk' h with h | ⟨y, h1, h2⟩
        · exact .inl h
        · exact .inr ⟨y, by simp [h1], h2⟩
      | true =>
        rw [hq, cond_true] at h
        rcases ih _ id b hk' h with h | ⟨y, h1, h2⟩
        · simp only [AH.get] at h
          rw [T.get_put' (hk x (by simp) (by rw [hnb]; simp))] at h
          split at h
          · rename_i e
            cases h
            exact .inr ⟨x, by simp, hnb, e.symm, by rw [e]; exact Nat.le_of_ble_eq_true hq⟩
          · exact .inl h
        · exact .inr ⟨y, by simp [h1], h2⟩

theorem fill_n (n : Nat) : ∀ (tr : List Tr) (G : AH), (fillHeap n tr G).n = n := by
  intro tr
  induction tr with
  | nil => intro G; rfl
  | cons x r ih =>
    intro G
    simp only [fillHeap]
    cases x.nb with
    | none => exact ih G
    | some b =>
      simp only
      cases Nat.ble G.n x.id with
      | false => rw [cond_false]; exact ih G
      | true => rw [cond_true]; exact ih _

/-- Between one effect and the next: the heap ahead of an effect. -/
theorem Chain.ahead {cs : Calls0} (hrec : CSOK P G cs) {ops : Array Oper} : ∀ (l : List Oper) (k : Nat) (tr : List Tr) (e : Env) (H : AH) (e2 : Env) (H2 : AH), Chain P cs ops k l tr e H e2 H2 →
    ∀ (done : List (Nat × AH)) (j : Nat) (Gj : AH) (todo : List (Nat × AH)), effectsOf tr = done ++ (j, Gj) :: todo → Low (lastX H done) →
      ∃ x ∈ tr, x.i = j ∧ x.eff = some Gj ∧ (lastX H done).n ≤ x.h.n ∧ (∀ id, id < (lastX H done).n → x.h.get id = (lastX H done).get id) ∧
        (∀ id b, (lastX H done).n ≤ id → x.h.get id = some b → ∃ y ∈ tr, y.nb = some b ∧ y.id = id ∧ id < x.h.n) := by
  intro l
  induction l with
  | nil =>
    intro k tr e H e2 H2 h done j Gj todo he
    cases tr with
    | nil => simp [effectsOf] at he
    | cons x l => exact h.elim
  | cons o r ih =>
    intro k tr e H e2 H2 h done j Gj todo he hlow
    cases tr with
    | nil => exact h.elim
    | cons x l =>
      obtain ⟨e', H', h1, h2⟩ := h
      have hh : x.h = H := h1.2.2.2.1
      have hi : x.i = k := h1.1
      cases hx : x.eff with
      | some G =>
        simp only [effectsOf, hx] at he
        obtain ⟨hG, _⟩ := h1.eff_some hrec hx
        cases done with
        | nil =>
          simp only [List.nil_append, List.cons.injEq, Prod.mk.injEq] at he
          obtain ⟨⟨rfl, rfl⟩, _⟩ := he
          refine ⟨x, by simp, rfl, hx, by rw [hh]; exact Nat.le_refl _, fun id _ => by rw [hh]; rfl, fun id b hge hb => ?_⟩
          rw [hh] at hb
          have h9 : id < H.n := hlow id b hb
          have h10 : H.n ≤ id := hge
          omega
        | cons d done =>
          simp only [List.cons_append, List.cons.injEq] at he
          obtain ⟨rfl, he⟩ := he
          simp only [lastX] at hlow ⊢
          rw [← hG] at h2
          obtain ⟨y, hy, h3⟩ := ih _ _ _ _ _ _ h2 done j Gj todo he hlow
          refine ⟨y, by simp [hy], h3.1, h3.2.1, h3.2.2.1, h3.2.2.2.1, fun id b hge hb => ?_⟩
          obtain ⟨z, hz, h4⟩ := h3.2.2.2.2 id b hge hb
          exact ⟨z, by simp [hz], h4⟩
      | none =>
        simp only [effectsOf, hx] at he
        cases done with
        | cons d done =>
          simp only [lastX] at hlow ⊢
          obtain ⟨y, hy, h3⟩ := ih _ _ _ _ _ _ h2 (d :: done) j Gj todo he (by simpa only [lastX] using hlow)
          simp only [lastX] at h3
          refine ⟨y, by simp [hy], h3.1, h3.2.1, h3.2.2.1, h3.2.2.2.1, fun id b hge hb => ?_⟩
          obtain ⟨z, hz, h4⟩ := h3.2.2.2.2 id b hge hb
          exact ⟨z, by simp [hz], h4⟩
        | nil =>
          simp only [lastX] at hlow ⊢
          rcases h1.quiet hrec hx with ⟨_, rfl⟩ | ⟨blk, hb1, hk1, rfl⟩
          · obtain ⟨y, hy, h3⟩ := ih _ _ _ _ _ _ h2 [] j Gj todo he hlow
            simp only [lastX] at h3
            refine ⟨y, by simp [hy], h3.1, h3.2.1, h3.2.2.1, h3.2.2.2.1, fun id b hge hb => ?_⟩
            obtain ⟨z, hz, h4⟩ := h3.2.2.2.2 id b hge hb
            exact ⟨z, by simp [hz], h4⟩
          · obtain ⟨y, hy, h3⟩ := ih _ _ _ _ _ _ h2 [] j Gj todo he (Low.push hlow hk1 blk)
            simp only [lastX] at h3
            obtain ⟨g1, g2, g3, g4, g5⟩ := h3
            rw [push_n] at g3 g4 g5
            refine ⟨y, by simp [hy], g1, g2, by omega, fun id hid => ?_, fun id b hge hb => ?_⟩
            · rw [g4 id (by omega), AH.get_push hk1, if_neg (by omega)]
            · by_cases hid : id = H.n
              · subst hid
                rw [g4 _ (by omega), AH.get_push hk1, if_pos rfl] at hb
                cases hb
                exact ⟨x, by simp, hb1, h1.2.2.2.2.1, by omega⟩
              · obtain ⟨z, hz, h4⟩ := g5 id b (by omega) hb
                exact ⟨z, by simp [hz], h4⟩

/- FRAMES -/

def envS (S : Nat → Bool) : List Tr → Env → Env
  | [], e => e
  | x :: r, e => envS S r (if S x.i then e.put x.o.dst x.v else e)

theorem envS_n (S : Nat → Bool) : ∀ (tr : List Tr) (e : Env), (envS S tr e).n = e.n := by
  intro tr
  induction tr with
  | nil => intro e; rfl
  | cons x r ih =>
    intro e
    simp only [envS]
    rw [ih]
    split
    · rw [Env.put_n]
    · rfl

theorem put_get_ne {e : Env} (hk : okKey e.n = true) {d : Option Tmp} {v : Value} {t : Nat} (h : d ≠ some t) : (e.put d v).get t = e.get t := by
  cases d with
  | none => rfl
  | some d =>
    rw [Env.get_put hk, if_neg]
    intro hc
    exact h (by rw [hc.1])

theorem put_get_congr {e e' : Env} (hk : okKey e.n = true) (hn : e'.n = e.n) {d : Option Tmp} {v : Value} {t : Nat} (h : e.get t = e'.get t) : (e.put d v).get t = (e'.put d v).get t := by
  cases d with
  | none => exact h
  | some d => rw [Env.get_put hk, Env.get_put (by rw [hn]; exact hk), hn, h]

/-- A slot hangs on those alone who write it. -/
theorem envS_get {S S' : Nat → Bool} {t : Nat} : ∀ (tr : List Tr) (e e' : Env), okKey e.n = true → e'.n = e.n → e.get t = e'.get t → (∀ x ∈ tr, x.o.dst = some t → S x.i = S' x.i) → (envS S tr e).get t = (envS S' tr e').get t := by
  intro tr
  induction tr with
  | nil => intro e e' _ _ h _; exact h
  | cons x r ih =>
    intro e e' hk hn h hS
    simp only [envS]
    have hS' := fun y hy => hS y (List.mem_cons_of_mem x hy)
    by_cases hd : x.o.dst = some t
    · have hsx := hS x (by simp) hd
      rw [← hsx]
      cases S x.i with
      | true =>
        simp only [if_true]
        exact ih _ _ (by rw [Env.put_n]; exact hk) (by rw [Env.put_n, Env.put_n]; exact hn) (put_get_congr hk hn h) hS'
      | false => simp only [Bool.false_eq_true, if_false]; exact ih _ _ hk hn h hS'
    · refine ih _ _ ?_ ?_ ?_ hS'
      · split
        · rw [Env.put_n]; exact hk
        · exact hk
      · (repeat' split) <;> simp only [Env.put_n, hn]
      · have h1 : (if S x.i = true then e.put x.o.dst x.v else e).get t = e.get t := by
          split
          · exact put_get_ne hk hd
          · rfl
        have h2 : (if S' x.i = true then e'.put x.o.dst x.v else e').get t = e'.get t := by
          split
          · exact put_get_ne (by rw [hn]; exact hk) hd
          · rfl
        rw [h1, h2, h]

theorem compO_dst (P : Program) (ops : Array Oper) (o : Oper) : (compO P ops o).dst = o.dst := rfl

/-- With all of them done the frame is the last one; with those ahead of a moment, that moment's. -/
theorem Chain.envS_upto {cs : Calls0} {ops : Array Oper} {S : Nat → Bool} : ∀ (l : List Oper) (k : Nat) (tr : List Tr) (e : Env) (H : AH) (e2 : Env) (H2 : AH), Chain P cs ops k l tr e H e2 H2 →
    (∀ x ∈ tr, S x.i = true) → envS S tr e = e2 := by
  intro l
  induction l with
  | nil =>
    intro k tr e H e2 H2 h hS
    cases tr with
    | nil => exact h.1.symm
    | cons x l => exact h.elim
  | cons o r ih =>
    intro k tr e H e2 H2 h hS
    cases tr with
    | nil => exact h.elim
    | cons x l =>
      obtain ⟨e', H', h1, h2⟩ := h
      simp only [envS, hS x (by simp), if_true]
      have : e' = e.put x.o.dst x.v := by rw [h1.2.1, compO_dst]; exact h1.2.2.2.2.2.2.1
      rw [← this]
      exact ih _ _ _ _ _ _ h2 fun y hy => hS y (by simp [hy])

theorem envS_none (S : Nat → Bool) : ∀ (tr : List Tr) (e : Env), (∀ x ∈ tr, S x.i = false) → envS S tr e = e := by
  intro tr
  induction tr with
  | nil => intro e _; rfl
  | cons x r ih =>
    intro e h
    simp only [envS, h x (by simp), Bool.false_eq_true, if_false]
    exact ih e fun y hy => h y (by simp [hy])

/-- One record among all: the moment ahead of it. -/
theorem Chain.split {cs : Calls0} {ops : Array Oper} : ∀ (l : List Oper) (k : Nat) (tr : List Tr) (e : Env) (H : AH) (e2 : Env) (H2 : AH), Chain P cs ops k l tr e H e2 H2 →
    ∀ (m : Nat) (o : Oper), l[m]? = some o → ∃ x e1 H1 e1' H1', x ∈ tr ∧ tr[m]? = some x ∧ Step1 P cs ops (k + m) o x e1 H1 e1' H1' ∧ e1 = envS (fun j => decide (j < k + m)) tr e ∧ (∀ y ∈ tr, k ≤ y.i) ∧ Chain P cs ops (k + m + 1) (l.drop (m + 1)) (tr.drop (m + 1)) e1' H1' e2 H2 := by
  intro l
  induction l with
  | nil => intro k tr e H e2 H2 h m o hm; simp at hm
  | cons o r ih =>
    intro k tr e H e2 H2 h m o' hm
    cases tr with
    | nil => exact h.elim
    | cons x l =>
      obtain ⟨e', H', h1, h2⟩ := h
      have hge : ∀ (l : List Oper) (k : Nat) (tr : List Tr) (e : Env) (H : AH) (e2 : Env) (H2 : AH), Chain P cs ops k l tr e H e2 H2 → ∀ y ∈ tr, k ≤ y.i := by
        intro l
        induction l with
        | nil => intro k tr e H e2 H2 h y hy; cases tr with
          | nil => simp at hy
          | cons x l => exact h.elim
        | cons o r ih2 => intro k tr e H e2 H2 h y hy; cases tr with
          | nil => simp at hy
          | cons x l =>
            obtain ⟨e', H', h1, h2⟩ := h
            simp only [List.mem_cons] at hy
            rcases hy with rfl | hy
            · rw [h1.1]; exact Nat.le_refl _
            · have := ih2 _ _ _ _ _ _ h2 y hy; omega
      have hgex : ∀ y ∈ (x :: l), k ≤ y.i := fun y hy => by
        simp only [List.mem_cons] at hy
        rcases hy with rfl | hy
        · rw [h1.1]; exact Nat.le_refl _
        · have := hge _ _ _ _ _ _ _ h2 y hy; omega
      cases m with
      | zero =>
        simp at hm
        subst hm
        refine ⟨x, e, H, e', H', by simp, rfl, h1, ?_, hgex, h2⟩
        rw [envS_none]
        intro y hy
        have := hgex y hy
        simp; omega
      | succ m =>
        obtain ⟨y, e1, H1, e1', H1', h3, h4, h5, h6, h7, h8⟩ := ih _ _ _ _ _ _ h2 m o' (by simpa using hm)
        refine ⟨y, e1, H1, e1', H1', by simp [h3], by simpa using h4, by rw [show k + (m + 1) = k + 1 + m by omega]; exact h5, ?_, hgex, ?_⟩
        · rw [h6]
          simp only [envS]
          have hx : decide (x.i < k + (m + 1)) = true := by rw [h1.1]; simp
          rw [if_pos hx]
          have : e' = e.put x.o.dst x.v := by rw [h1.2.1, compO_dst]; exact h1.2.2.2.2.2.2.1
          rw [← this, show k + 1 + m = k + (m + 1) by omega]
        · simpa [show k + (m + 1) + 1 = k + 1 + m + 1 by omega] using h8

end
end Go.Den
