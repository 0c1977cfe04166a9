/-
  THE ENGINE, part Q: for regions that draw their order: what an operation hangs on.
-/
import Derived.Test.YtbpcageamcgehaaEngP
namespace Go.Den
noncomputable section

variable {P : Program}

/- WHAT AN OPERATION READS OF THE FRAME -/

theorem gen_congr {e e' : Env} {o : Oper} (hk : opKind o.op = true) (hx : ∀ x ∈ o.op.operands.toList, evl e x = evl e' x) : genA P e o = genA P e' o := by
  have h1 : (o.op.operands.toList.all fun x => flat (evl e x)) = o.op.operands.toList.all fun x => flat (evl e' x) := by
    have : ∀ (l : List Operand), (∀ x ∈ l, evl e x = evl e' x) → (l.all fun x => flat (evl e x)) = l.all fun x => flat (evl e' x) := by
      intro l
      induction l with
      | nil => intro _; rfl
      | cons a l ih => intro h; simp only [List.all_cons]; rw [h a (by simp), ih fun x hx => h x (by simp [hx])]
    exact this _ hx
  unfold genA
  rw [h1, execOp_congr o hk hx]

theorem evls_congr {e e' : Env} (l : List Operand) (h : ∀ x ∈ l, evl e x = evl e' x) : evls e l = evls e' l := by
  induction l with
  | nil => rfl
  | cons a l ih => show evl e a :: evls e l = evl e' a :: evls e' l; rw [h a (by simp), ih fun x hx => h x (by simp [hx])]

theorem evParts_congr {e e' : Env} (l : List (Nat × Nat × Operand)) (h : ∀ x ∈ l, evl e x.2.2 = evl e' x.2.2) : evParts e l = evParts e' l := by
  induction l with
  | nil => rfl
  | cons a l ih => obtain ⟨x, y, z⟩ := a; simp only [evParts]; rw [h (x, y, z) (by simp), ih fun x hx => h x (by simp [hx])]

theorem optNat_congr {e e' : Env} (d : Nat) (x : Option Operand) (h : ∀ y, x = some y → evl e y = evl e' y) : optNat e d x = optNat e' d x := by
  cases x with
  | none => rfl
  | some y => simp only [optNat, h y rfl]

theorem partsS_mem {places : List (Nat × Nat)} : ∀ (parts : List (Nat × Operand)) (L : List (Nat × Nat × Operand)), partsS places parts = some L → ∀ q ∈ L, ∃ p ∈ parts, p.2 = q.2.2 := by
  intro parts
  induction parts with
  | nil => intro L h q hq; cases h; simp at hq
  | cons p parts ih =>
    intro L h q hq
    obtain ⟨j, x⟩ := p
    simp only [partsS] at h
    split at h
    · rename_i pl l h1 h2
      cases h
      simp only [List.mem_cons] at hq
      rcases hq with rfl | hq
      · exact ⟨(j, x), by simp, rfl⟩
      · obtain ⟨p, h3, h4⟩ := ih l h2 q hq
        exact ⟨p, by simp [h3], h4⟩
    · cases h

theorem partsA_mem {size : Nat} : ∀ (parts : List (Nat × Operand)), ∀ q ∈ partsA size parts, ∃ p ∈ parts, p.2 = q.2.2 := by
  intro parts
  induction parts with
  | nil => intro q hq; simp [partsA] at hq
  | cons p parts ih =>
    intro q hq
    obtain ⟨j, x⟩ := p
    simp only [partsA, List.mem_cons] at hq
    rcases hq with rfl | hq
    · exact ⟨(j, x), by simp, rfl⟩
    · obtain ⟨p, h3, h4⟩ := ih q hq
      exact ⟨p, by simp [h3], h4⟩

theorem insA_congr {e e' : Env} {o : Oper} {i : Ins} (hc : comp P o = some i) (hx : ∀ x ∈ o.op.operands.toList, evl e x = evl e' x) (H : AH) (f : Nat) : insA P e H f i = insA P e' H f i := by
  unfold comp at hc
  split at hc
  · rename_i h0
    simp only [Bool.and_eq_true] at h0
    have hk := h0.1
    have hg : genA P e o = genA P e' o := gen_congr hk hx
    have m1 : ∀ x, x ∈ o.op.operands.toList → evl e x = evl e' x := hx
    unfold compOp at hc
    split at hc
    · rename_i x ho; cases hc; simp only [insA, m1 x (by rw [ho]; simp [Op.operands])]
    · rename_i x ho; cases hc; simp only [insA, m1 x (by rw [ho]; simp [Op.operands])]
    · rename_i c x y ho; cases hc; simp only [insA, m1 x (by rw [ho]; simp [Op.operands]), m1 y (by rw [ho]; simp [Op.operands]), m1 c (by rw [ho]; simp [Op.operands])]
    · rename_i elem ho
      split at hc
      · split at hc
        · cases hc; rfl
        · cases hc
      · cases hc
    · rename_i elem x ho; cases hc; simp only [insA, m1 x (by rw [ho]; simp [Op.operands])]
    · rename_i t parts ho
      have mp : ∀ p ∈ parts.toList, evl e p.2 = evl e' p.2 := fun p hp => m1 p.2 (by rw [ho]; simp only [Op.operands]; simp; exact ⟨p.1, by simpa using hp⟩)
      unfold compBuild at hc
      split at hc
      · split at hc
        · split at hc
          · rename_i l hl; cases hc
            simp only [insA]
            rw [evParts_congr (e' := e') l fun q hq => by obtain ⟨p, h1, h2⟩ := partsS_mem _ _ hl q hq; rw [← h2]; exact mp p h1]
          · cases hc
        · cases hc
      · split at hc
        · cases hc
          simp only [insA]
          rw [evParts_congr (e' := e') _ fun q hq => by obtain ⟨p, h1, h2⟩ := partsA_mem _ q hq; rw [← h2]; exact mp p h1]
        · cases hc
      · cases hc
    · rename_i t len parts ho
      have mp : ∀ p ∈ parts.toList, evl e p.2 = evl e' p.2 := fun p hp => m1 p.2 (by rw [ho]; simp only [Op.operands]; simp; exact ⟨p.1, by simpa using hp⟩)
      unfold compSlice at hc
      split at hc
      · split at hc
        · split at hc
          · split at hc
            · cases hc
              simp only [insA]
              rw [evParts_congr (e' := e') _ fun q hq => by obtain ⟨p, h1, h2⟩ := partsA_mem _ q hq; rw [← h2]; exact mp p h1]
            · cases hc
          · cases hc
        · cases hc
      · cases hc
    · rename_i t x ho
      unfold compLoad at hc
      split at hc
      · split at hc <;> cases hc <;> simp only [insA, m1 x (by rw [ho]; simp [Op.operands])]
      · cases hc
    · rename_i t x y ho
      split at hc
      · cases hc; simp only [insA, m1 x (by rw [ho]; simp [Op.operands]), m1 y (by rw [ho]; simp [Op.operands])]
      · cases hc
    · rename_i x ho; cases hc; simp only [insA, m1 x (by rw [ho]; simp [Op.operands])]
    · rename_i op t x y yt ho
      have ex := m1 x (by rw [ho]; simp [Op.operands])
      have ey := m1 y (by rw [ho]; simp [Op.operands])
      unfold compBin at hc
      split at hc
      · split at hc
        · cases hc; simp only [insA, ex, ey, int2A]; split <;> simp only [orGen, hg]
        · split at hc
          · have : ∀ neg d, compRef P neg d x y = some i → insA P e H f i = insA P e' H f i := by
              intro neg d h
              unfold compRef at h
              split at h
              · split at h
                · split at h
                  · cases h; simp only [insA, ex, ey]
                  · cases h
                · cases h
              · cases h; simp only [insA, ex, ey]
              · cases h; simp only [insA, ex, ey]
              · cases h; simp only [insA, ex, ey]
              · cases h
            split at hc
            · exact this _ _ hc
            · exact this _ _ hc
            · cases hc
          · cases hc; exact hg
      · cases hc
    · cases hc; exact hg
    · rename_i src dst x ho
      have ex := m1 x (by rw [ho]; simp [Op.operands])
      unfold compConv at hc
      split at hc
      · split at hc
        · cases hc; simp only [insA, ex, b2sA, hg]
        · cases hc
      · split at hc
        · split at hc
          · cases hc; simp only [insA, ex]
          · cases hc
        · cases hc
      · unfold compPtr at hc
        split at hc
        · split at hc
          · unfold compTo at hc
            split at hc
            · split at hc
              · cases hc; simp only [insA, ex, topuA, hg]
              · cases hc
            · cases hc
          · cases hc; exact hg
        · split at hc
          · split at hc
            · unfold compFrom at hc
              split at hc
              · cases hc; simp only [insA, ex, frpuA, hg]
              · cases hc
            · cases hc; exact hg
          · cases hc; exact hg
      · cases hc
    · rename_i t x ho
      split at hc
      · cases hc
      · cases hc; simp only [insA, m1 x (by rw [ho]; simp [Op.operands])]
      · cases hc
    · rename_i fn first captured ho
      split at hc
      · cases hc
        simp only [insA]
        rw [evls_congr first.toList fun x hx => m1 x (by rw [ho]; simp only [Op.operands, Array.toList_append, List.mem_append]; exact .inl hx), evls_congr captured.toList fun x hx => m1 x (by rw [ho]; simp only [Op.operands, Array.toList_append, List.mem_append]; exact .inr hx)]
      · cases hc
    · cases hc; rfl
    · rename_i t l c ho
      split at hc
      · split at hc
        · split at hc
          · split at hc
            · cases hc; simp only [insA, m1 l (by rw [ho]; simp [Op.operands]), m1 c (by rw [ho]; simp [Op.operands])]
            · cases hc
          · cases hc
        · cases hc
      · cases hc
    · rename_i t x lo hi mx ho
      have ex := m1 x (by rw [ho]; simp [Op.operands])
      have elo : ∀ y, lo = some y → evl e y = evl e' y := fun y hy => m1 y (by rw [ho, hy]; simp [Op.operands])
      have ehi : ∀ y, hi = some y → evl e y = evl e' y := fun y hy => m1 y (by rw [ho, hy]; simp [Op.operands])
      have emx : ∀ y, mx = some y → evl e y = evl e' y := fun y hy => m1 y (by rw [ho, hy]; simp [Op.operands])
      unfold compSl at hc
      split at hc
      · cases hc; exact hg
      · split at hc
        · cases hc
          simp only [insA, ex, slSA, hg]
          rw [optNat_congr 0 lo elo]
          split
          · rw [optNat_congr _ hi ehi]
            cases mx with
            | none => rfl
            | some y => simp only [emx y rfl]
          · rfl
        · cases hc
      · split at hc
        · cases hc; simp only [insA, ex, slAA, optNat_congr 0 lo elo, optNat_congr _ hi ehi]
        · cases hc
      · cases hc
    · rename_i s x j ho
      have ex := m1 x (by rw [ho]; simp [Op.operands])
      unfold compFaddr at hc
      split at hc
      · split at hc
        · split at hc
          · split at hc
            · cases hc
            · cases hc; simp only [insA, ex]
          · cases hc
        · cases hc
      · cases hc
    · rename_i s x j ho
      have ex := m1 x (by rw [ho]; simp [Op.operands])
      unfold compField at hc
      split at hc
      · split at hc
        · split at hc
          · split at hc <;> cases hc <;> simp only [insA, ex]
          · cases hc
        · cases hc
      · cases hc
    · rename_i t x y ho
      have ex := m1 x (by rw [ho]; simp [Op.operands])
      have ey := m1 y (by rw [ho]; simp [Op.operands])
      unfold compIaddr at hc
      split at hc
      · split at hc
        · cases hc; simp only [insA, ex, ey]
        · cases hc
      · split at hc
        · cases hc; simp only [insA, ex, ey]
        · cases hc
      · cases hc
    · rename_i t x y ho
      have ex := m1 x (by rw [ho]; simp [Op.operands])
      have ey := m1 y (by rw [ho]; simp [Op.operands])
      unfold compIndex at hc
      split at hc
      · split at hc
        · split at hc <;> cases hc <;> simp only [insA, ex, ey]
        · cases hc
      · cases hc; exact hg
      · cases hc
    · rename_i t m k ok ho
      have em := m1 m (by rw [ho]; simp [Op.operands])
      have ek := m1 k (by rw [ho]; simp [Op.operands])
      split at hc
      · split at hc
        · split at hc
          · cases hc; simp only [insA, em, ek, lookA, hg]
          · cases hc
        · cases hc
      · cases hc
    · rename_i t m k x ho
      split at hc
      · cases hc; simp only [insA, m1 m (by rw [ho]; simp [Op.operands]), m1 k (by rw [ho]; simp [Op.operands]), m1 x (by rw [ho]; simp [Op.operands])]
      · cases hc
    · rename_i t m k x ho
      split at hc
      · cases hc; simp only [insA, m1 m (by rw [ho]; simp [Op.operands]), m1 k (by rw [ho]; simp [Op.operands]), m1 x (by rw [ho]; simp [Op.operands])]
      · cases hc
    · rename_i x j ho; cases hc; simp only [insA, m1 x (by rw [ho]; simp [Op.operands])]
    · cases hc; exact hg
    · rename_i c ho
      have margs : ∀ x ∈ c.args.toList, evl e x = evl e' x := fun x hx => m1 x (by rw [ho]; simp only [Op.operands, Call.operands, Array.toList_append, List.mem_append]; exact .inr hx)
      split at hc
      · rename_i b hb
        unfold compBuiltin at hc
        split at hc
        · rename_i x hx1
          have ex := margs x (by rw [hx1]; simp)
          split at hc
          · cases hc; simp only [insA, ex, lenIA, hg]
          · cases hc; simp only [insA, ex, lenMA, hg]
          · cases hc; exact hg
          · cases hc
        · rename_i x hx1
          split at hc
          · cases hc; simp only [insA, margs x (by rw [hx1]; simp)]
          · cases hc
        · rename_i s x hx1
          split at hc
          · split at hc
            · split at hc
              · cases hc; simp only [insA, margs s (by rw [hx1]; simp), margs x (by rw [hx1]; simp)]
              · cases hc
            · cases hc
          · cases hc
        · rename_i d s hx1
          split at hc
          · split at hc
            · split at hc
              · cases hc; simp only [insA, margs s (by rw [hx1]; simp), margs d (by rw [hx1]; simp)]
              · cases hc
            · cases hc
          · cases hc
        · rename_i x hx1; cases hc; simp only [insA, margs x (by rw [hx1]; simp)]
        · cases hc; exact hg
        · cases hc; exact hg
        · cases hc; exact hg
        · cases hc; exact hg
        · cases hc; exact hg
        · unfold compMore at hc
          split at hc
          · unfold compUstr at hc
            split at hc
            · rename_i x n hx1
              split at hc
              · cases hc; simp only [insA, margs x (by rw [hx1]; simp), margs n (by rw [hx1]; simp)]
              · cases hc
            · cases hc
          · cases hc
      · rename_i g hg1
        split at hc
        · cases hc; simp only [insA]; rw [evls_congr _ margs]
        · split at hc
          · unfold compSame at hc
            split at hc
            · rename_i x hx1; cases hc; simp only [insA, margs x (by rw [hx1]; simp)]
            · cases hc
          · cases hc; exact hg
      · rename_i g _ hg1
        cases hc
        simp only [insA]
        rw [evls_congr _ margs, m1 g (by rw [ho]; simp [Op.operands, Call.operands, hg1])]
      · cases hc
    · cases hc
  · cases hc

/-- What doesn't look at the heap hangs on nothing in it. -/
theorem insA_indep {e : Env} {H X : AH} {f : Nat} {i : Ins} {v : Value} {nb : Option ABlk} (hl : looks (some i) = false) (h : insA P e H f i = .simple v nb) : insA P e X f i = .simple v nb ∧ nb = none := by
  have hgen : ∀ o, genA P e o = .simple v nb → nb = none := by
    intro o h
    unfold genA at h
    cases hq : (o.op.operands.toList.all fun x => flat (evl e x)) with
    | false => rw [hq, cond_false] at h; cases h
    | true =>
      rw [hq, cond_true] at h
      split at h
      · rename_i u hu
        cases hf : flat u with
        | false => rw [hf, cond_false] at h; cases h
        | true => rw [hf, cond_true] at h; cases h; rfl
      · cases h
  cases i with
  | mv x => cases h; exact ⟨rfl, rfl⟩
  | pick c a b => refine ⟨h, ?_⟩; simp only [insA, pickA] at h; split at h <;> cases h <;> rfl
  | new z el => simp [looks] at hl
  | box el x => simp [looks] at hl
  | build z ps => refine ⟨h, ?_⟩; simp only [insA, buildRes] at h; split at h <;> cases h; rfl
  | bslice a b c d => simp [looks] at hl
  | load1 x => simp [looks] at hl
  | loadN s x => simp [looks] at hl
  | store s x y =>
    simp only [insA, storeA] at h
    split at h
    · cases hq : Nat.beq (evl e y).cells.size s with
      | false => rw [hq, cond_false] at h; cases h
      | true => rw [hq, cond_true] at h; unfold effU at h; split at h <;> cases h
    · cases h
  | nilc x => refine ⟨h, ?_⟩; simp only [insA, nilcA] at h; split at h <;> cases h; rfl
  | int2 op x y o =>
    refine ⟨h, ?_⟩
    simp only [insA, int2A] at h
    split at h
    · unfold orGen at h
      split at h
      · cases h; rfl
      · exact hgen _ h
    · cases h
  | ref neg d x y =>
    refine ⟨h, ?_⟩
    simp only [insA, refA] at h
    split at h <;> first | (cases h; done) | (cases h; rfl) | (cases hq : samePtr (evl e x) (evl e y) with | false => (rw [hq, cond_false] at h; cases h) | true => (rw [hq, cond_true] at h; cases h; rfl))
  | faddr o x => refine ⟨h, ?_⟩; simp only [insA, faddrA] at h; split at h <;> first | (rw [forceN_eq] at h; cases h; rfl) | cases h
  | iaddrA l s x j =>
    refine ⟨h, ?_⟩
    simp only [insA, iaddrAA] at h
    split at h
    · rename_i p n _ _
      cases hq : Nat.blt n l with
      | false => rw [hq, cond_false] at h; cases h
      | true => rw [hq, cond_true, forceN_eq] at h; cases h; rfl
    · cases h
  | iaddrS s x j =>
    refine ⟨h, ?_⟩
    simp only [insA, iaddrSA] at h
    split at h
    · rename_i p l c n _ _
      cases hq : Nat.blt n l with
      | false => rw [hq, cond_false] at h; cases h
      | true => rw [hq, cond_true, forceN_eq] at h; cases h; rfl
    · cases h
  | fld1 o x => refine ⟨h, ?_⟩; simp only [insA, fld1A] at h; split at h <;> first | (split at h <;> cases h <;> rfl) | cases h
  | fldN o s x =>
    refine ⟨h, ?_⟩
    simp only [insA, fldNA] at h
    split at h
    · rename_i cs _
      cases hq : Nat.ble (o + s) cs.toList.length with
      | false => rw [hq, cond_false] at h; cases h
      | true => rw [hq, cond_true] at h; cases h; rfl
    · cases h
  | idx1 l s x j =>
    refine ⟨h, ?_⟩
    simp only [insA, idx1A] at h
    split at h
    · rename_i n _
      cases hq : Nat.blt n l with
      | false => rw [hq, cond_false] at h; cases h
      | true => rw [hq, cond_true] at h; unfold fld1A at h; split at h <;> first | (split at h <;> cases h <;> rfl) | cases h
    · cases h
  | idxN l s x j =>
    refine ⟨h, ?_⟩
    simp only [insA, idxNA] at h
    split at h
    · rename_i n _
      cases hq : Nat.blt n l with
      | false => rw [hq, cond_false] at h; cases h
      | true =>
        rw [hq, cond_true] at h
        unfold fldNA at h
        split at h
        · rename_i cs _
          cases hq2 : Nat.ble (n * s + s) cs.toList.length with
          | false => rw [hq2, cond_false] at h; cases h
          | true => rw [hq2, cond_true] at h; cases h; rfl
        · cases h
    · cases h
  | slS a b c d g o => simp [looks] at hl
  | slA n s x lo hi =>
    refine ⟨h, ?_⟩
    simp only [insA, slAA] at h
    split at h
    · split at h
      · rename_i l hh _ _
        unfold slExact at h
        cases hq : (Nat.ble l hh && Nat.ble hh n) with
        | false => rw [hq, cond_false] at h; cases h
        | true => rw [hq, cond_true] at h; cases h; rfl
      · cases h
    · cases h
  | len x o => refine ⟨h, ?_⟩; simp only [insA, lenIA] at h; split at h <;> first | (cases h; rfl) | exact hgen _ h
  | lenM x o => simp [looks] at hl
  | capI x => refine ⟨h, ?_⟩; simp only [insA, capIA] at h; split at h <;> cases h <;> rfl
  | ext x j => refine ⟨h, ?_⟩; simp only [insA, extA] at h; split at h <;> first | (split at h <;> cases h <;> rfl) | cases h
  | iface t x => cases h; exact ⟨rfl, rfl⟩
  | mkfn fn a b => cases h; exact ⟨rfl, rfl⟩
  | app el s b x y =>
    exfalso
    simp only [insA] at h
    have hfr : ∀ (cs : List Value) (n : Nat), freshRow H el s cs n ≠ .simple v nb := by
      intro cs n h
      unfold freshRow at h
      cases hq : okKey H.n with
      | false => rw [hq, cond_false] at h; cases h
      | true => rw [hq, cond_true] at h; cases h
    unfold appA at h
    split at h
    · unfold appNone at h
      split at h
      · cases h
      · rename_i p l _
        cases hq : openOk s p H ((l + 1) * s) with
        | false => rw [hq, cond_false] at h; cases h
        | true => rw [hq, cond_true] at h; cases h
      · rename_i p l c _
        cases hq : Nat.ble l c with
        | false => rw [hq, cond_false] at h; cases h
        | true => rw [hq, cond_true] at h; cases h
      · cases h
    · rename_i n _ _
      split at h
      · rename_i new _
        unfold appOnto at h
        split at h
        · cases hq : roomy n b with
          | false => rw [hq, cond_false] at h; cases h
          | true => rw [hq, cond_true] at h; exact hfr _ _ h
        · rename_i p l _
          cases hq : roomy (l + n) b with
          | false => rw [hq, cond_false] at h; cases h
          | true =>
            rw [hq, cond_true] at h
            unfold appOpen at h
            cases hq2 : (openOk s p H (l * s) && Nat.blt 0 l) with
            | false => rw [hq2, cond_false] at h; cases h
            | true =>
              rw [hq2, cond_true] at h
              split at h
              · rename_i bb _
                cases hq3 : (tailOk bb el s p l && new.all oneCell) with
                | false => rw [hq3, cond_false] at h; cases h
                | true => rw [hq3, cond_true] at h; cases h
              · cases h
        · rename_i p l c _
          cases hq : (roomy (l + n) b && Nat.ble l c) with
          | false => rw [hq, cond_false] at h; cases h
          | true =>
            rw [hq, cond_true] at h
            unfold appExact at h
            cases hq2 : Nat.ble (l + n) c with
            | true => rw [hq2, cond_true] at h; unfold effV at h; split at h <;> cases h
            | false =>
              rw [hq2, cond_false] at h
              split at h
              · exact hfr _ _ h
              · split at h
                · exact hfr _ _ h
                · cases h
        · cases h
      · cases h
    · cases h
  | copy s x y =>
    exfalso
    simp only [insA] at h
    unfold copyA at h
    split at h
    · split at h
      · cases h
      · split at h
        · unfold effV at h; split at h <;> cases h
        · cases h
    · cases h
    · cases h
  | mkmap => simp [looks] at hl
  | look a b c d g o => simp [looks] at hl
  | upd kt m k x =>
    exfalso
    simp only [insA] at h
    unfold updA at h
    split at h
    · rename_i r _
      split at h
      · cases hq : (flat (evl e k) && okKey r) with
        | false => rw [hq, cond_false] at h; cases h
        | true =>
          rw [hq, cond_true] at h
          unfold updRes at h
          split at h
          · split at h
            · rename_i ee _
              cases hq2 : Instr.sameBits 10000 ee.1 (evl e k) with
              | false => rw [hq2, cond_false] at h; cases h
              | true => rw [hq2, cond_true] at h; cases h
            · cases h
          · cases h
          · cases h
      · cases h
    · cases h
  | mkslice a b c d g j => simp [looks] at hl
  | b2s x o => simp [looks] at hl
  | s2b el x => simp [looks] at hl
  | call g as => cases h
  | dyn g as =>
    exfalso
    simp only [insA] at h
    unfold dynA at h
    split at h
    · rename_i q _ _ _
      cases hq : hasBody P q with
      | false => rw [hq, cond_false] at h; cases h
      | true => rw [hq, cond_true] at h; cases h
    · cases h
  | usd x => simp [looks] at hl
  | topu x o => simp [looks] at hl
  | frpu u x o => simp [looks] at hl
  | ustr u x n => simp [looks] at hl
  | gen o => exact ⟨h, hgen _ h⟩

end
end Go.Den
