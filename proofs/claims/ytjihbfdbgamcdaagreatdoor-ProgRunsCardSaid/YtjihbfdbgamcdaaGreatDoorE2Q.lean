/-
  THE ENGINE, part Q: for regions that draw their order: what an operation hangs on.
-/
import Derived.Test.YtjihbfdbgamcdaaGreatDoorE2P
namespace Go.Den
noncomputable section

variable {P : Program}

/- WHAT AN OPERATION READS OF THE FRAME -/

theorem gen_congr {e e' : Env} {o : Oper} (hk : opKind o.op = true) (hx : ∀ x ∈ o.op.operands.toList, evl e x = evl e' x) : genA P e o = genA P e' o := by
  have h1 : (o.op.operands.toList.all fun x => flat (evl e x)) = o.op.operands.toList.all fun x => flat (evl e' x) := by
    have : ∀ (l : List Operand), (∀ x ∈ l, evl e x = evl e' x) → (l.all fun x => flat (evl e x)) = l.all fun x => flat (evl e' x) := by
      intro l
      induction l with
      | nil => intro _; rfl
      | cons a l ih => intro h; simp only [List.all_cons]; rw [h a (by simp), ih fun x hx => h x (by simp [hx])]
    exact this _ hx
  unfold genA
  rw [h1, execOp_congr o hk hx]

theorem evls_congr {e e' : Env} (l : List Operand) (h : ∀ x ∈ l, evl e x = evl e' x) : evls e l = evls e' l := by
  induction l with
  | nil => rfl
  | cons a l ih => show evl e a :: evls e l = evl e' a :: evls e' l; rw [h a (by simp), ih fun x hx => h x (by simp [hx])]

theorem evParts_congr {e e' : Env} (l : List (Nat × Nat × Operand)) (h : ∀ x ∈ l, evl e x.2.2 = evl e' x.2.2) : evParts e l = evParts e' l := by
  induction l with
  | nil => rfl
  | cons a l ih => obtain ⟨x, y, z⟩ := a; simp only [evParts]; rw [h (x, y, z) (by simp), ih fun x hx => h x (by simp [hx])]

theorem optNat_congr {e e' : Env} (d : Nat) (x : Option Operand) (h : ∀ y, x = some y → evl e y = evl e' y) : optNat e d x = optNat e' d x := by
  cases x with
  | none => rfl
  | some y => simp only [optNat, h y rfl]

theorem partsS_mem {places : List (Nat × Nat)} : ∀ (parts : List (Nat × Operand)) (L : List (Nat × Nat × Operand)), partsS places parts = some L → ∀ q ∈ L, ∃ p ∈ parts, p.2 = q.2.2 := by
  intro parts
  induction parts with
  | nil => intro L h q hq; cases h; simp at hq
  | cons p parts ih =>
    intro L h q hq
    obtain ⟨j, x⟩ := p
    simp only [partsS] at h
    split at h
    · rename_i pl l h1 h2
      cases h
      simp only [List.mem_cons] at hq
      rcases hq with rfl | hq
      · exact ⟨(j, x), by simp, rfl⟩
      · obtain ⟨p, h3, h4⟩ := ih l h2 q hq
        exact ⟨p, by simp [h3], h4⟩
    · cases h

theorem partsA_mem {size : Nat} : ∀ (parts : List (Nat × Operand)), ∀ q ∈ partsA size parts, ∃ p ∈ parts, p.2 = q.2.2 := by
  intro parts
  induction parts with
  | nil => intro q hq; simp [partsA] at hq
  | cons p parts ih =>
    intro q hq
    obtain ⟨j, x⟩ := p
    simp only [partsA, List.mem_cons] at hq
    rcases hq with rfl | hq
    · exact ⟨(j, x), by simp, rfl⟩
    · obtain ⟨p, h3, h4⟩ := ih q hq
      exact ⟨p, by simp [h3], h4⟩

theorem insA_congr {e e' : Env} {o : Oper} {i : Ins} (hc : comp P o = some i) (hgg : e.g = e'.g) (hx : ∀ x ∈ o.op.operands.toList, evl e x = evl e' x) (H : AH) (f : Nat) : insA P e H f i = insA P e' H f i := by
  unfold comp at hc
  split at hc
  · rename_i h0
    simp only [Bool.and_eq_true] at h0
    have hk := h0.1
    have hg : genA P e o = genA P e' o := gen_congr hk hx
    have m1 : ∀ x, x ∈ o.op.operands.toList → evl e x = evl e' x := hx
    unfold compOp at hc
    split at hc
    · rename_i x ho; cases hc; simp only [insA, m1 x (by rw [ho]; simp [Op.operands])]
    · rename_i x ho; cases hc; simp only [insA, m1 x (by rw [ho]; simp [Op.operands])]
    · rename_i c x y ho; cases hc; simp only [insA, m1 x (by rw [ho]; simp [Op.operands]), m1 y (by rw [ho]; simp [Op.operands]), m1 c (by rw [ho]; simp [Op.operands])]
    · rename_i elem ho
      split at hc
      · split at hc
        · cases hc; rfl
        · cases hc
      · cases hc
    · rename_i elem x ho; cases hc; simp only [insA, m1 x (by rw [ho]; simp [Op.operands])]
    · rename_i t parts ho
      have mp : ∀ p ∈ parts.toList, evl e p.2 = evl e' p.2 := fun p hp => m1 p.2 (by rw [ho]; simp only [Op.operands]; simp; exact ⟨p.1, by simpa using hp⟩)
      unfold compBuild at hc
      split at hc
      · split at hc
        · split at hc
          · rename_i l hl; cases hc
            simp only [insA]
            rw [evParts_congr (e' := e') l fun q hq => by obtain ⟨p, h1, h2⟩ := partsS_mem _ _ hl q hq; rw [← h2]; exact mp p h1]
          · cases hc
        · cases hc
      · split at hc
        · cases hc
          simp only [insA]
          rw [evParts_congr (e' := e') _ fun q hq => by obtain ⟨p, h1, h2⟩ := partsA_mem _ q hq; rw [← h2]; exact mp p h1]
        · cases hc
      · cases hc
    · rename_i t len parts ho
      have mp : ∀ p ∈ parts.toList, evl e p.2 = evl e' p.2 := fun p hp => m1 p.2 (by rw [ho]; simp only [Op.operands]; simp; exact ⟨p.1, by simpa using hp⟩)
      unfold compSlice at hc
      split at hc
      · split at hc
        · split at hc
          · split at hc
            · cases hc
              simp only [insA]
              rw [evParts_congr (e' := e') _ fun q hq => by obtain ⟨p, h1, h2⟩ := partsA_mem _ q hq; rw [← h2]; exact mp p h1]
            · cases hc
          · cases hc
        · cases hc
      · cases hc
    · rename_i t x ho
      unfold compLoad at hc
      split at hc
      · split at hc <;> cases hc <;> simp only [insA, m1 x (by rw [ho]; simp [Op.operands])]
      · cases hc
    · rename_i t x y ho
      split at hc
      · cases hc; simp only [insA, m1 x (by rw [ho]; simp [Op.operands]), m1 y (by rw [ho]; simp [Op.operands])]
      · cases hc
    · rename_i x ho; cases hc; simp only [insA, m1 x (by rw [ho]; simp [Op.operands])]
    · rename_i op t x y yt ho
      have ex := m1 x (by rw [ho]; simp [Op.operands])
      have ey := m1 y (by rw [ho]; simp [Op.operands])
      unfold compBin at hc
      split at hc
      · split at hc
        · cases hc; simp only [insA, ex, ey, int2A]; split <;> simp only [orGen, hg]
        · split at hc
          · have : ∀ neg d, compRef P neg d x y = some i → insA P e H f i = insA P e' H f i := by
              intro neg d h
              unfold compRef at h
              split at h
              · split at h
                · split at h
                  · cases h; simp only [insA, ex, ey]
                  · cases h
                · cases h
              · cases h; simp only [insA, ex, ey]
              · cases h; simp only [insA, ex, ey]
              · cases h; simp only [insA, ex, ey]
              · cases h
            split at hc
            · exact this _ _ hc
            · exact this _ _ hc
            · cases hc
          · cases hc; exact hg
      · cases hc
    · cases hc; exact hg
    · rename_i src dst x ho
      have ex := m1 x (by rw [ho]; simp [Op.operands])
      unfold compConv at hc
      split at hc
      · split at hc
        · cases hc; simp only [insA, ex, b2sA, b2sF, hg]
        · cases hc
      · split at hc
        · split at hc
          · cases hc; simp only [insA, ex]
          · cases hc
        · cases hc
      · unfold compPtr at hc
        split at hc
        · split at hc
          · unfold compTo at hc
            split at hc
            · split at hc
              · cases hc; simp only [insA, ex, topuA, hg]
              · cases hc
            · cases hc
          · cases hc; exact hg
        · split at hc
          · split at hc
            · unfold compFrom at hc
              split at hc
              · cases hc; simp only [insA, ex, frpuA, hg]
              · cases hc
            · cases hc; exact hg
          · cases hc; exact hg
      · cases hc
    · rename_i t x ho
      split at hc
      · cases hc
      · cases hc; simp only [insA, m1 x (by rw [ho]; simp [Op.operands])]
      · cases hc
    · rename_i fn first captured ho
      split at hc
      · cases hc
        simp only [insA]
        rw [evls_congr first.toList fun x hx => m1 x (by rw [ho]; simp only [Op.operands, Array.toList_append, List.mem_append]; exact .inl hx), evls_congr captured.toList fun x hx => m1 x (by rw [ho]; simp only [Op.operands, Array.toList_append, List.mem_append]; exact .inr hx)]
      · cases hc
    · cases hc; rfl
    · rename_i t l c ho
      split at hc
      · split at hc
        · split at hc
          · split at hc
            · cases hc; simp only [insA, m1 l (by rw [ho]; simp [Op.operands]), m1 c (by rw [ho]; simp [Op.operands])]
            · cases hc
          · cases hc
        · cases hc
      · cases hc
    · rename_i t x lo hi mx ho
      have ex := m1 x (by rw [ho]; simp [Op.operands])
      have elo : ∀ y, lo = some y → evl e y = evl e' y := fun y hy => m1 y (by rw [ho, hy]; simp [Op.operands])
      have ehi : ∀ y, hi = some y → evl e y = evl e' y := fun y hy => m1 y (by rw [ho, hy]; simp [Op.operands])
      have emx : ∀ y, mx = some y → evl e y = evl e' y := fun y hy => m1 y (by rw [ho, hy]; simp [Op.operands])
      unfold compSl at hc
      split at hc
      · cases hc; exact hg
      · split at hc
        · cases hc
          have e0 : ∀ d, optNat e d lo = optNat e' d lo := fun d => optNat_congr d lo elo
          have e1 : ∀ d, optNat e d hi = optNat e' d hi := fun d => optNat_congr d hi ehi
          have e2 : ∀ y, mx = some y → evl e y = evl e' y := emx
          simp only [insA, ex, slSA, slF, slF2, hg, e0, e1]
          cases mx with
          | none => rfl
          | some y => simp only [e2 y rfl]
        · cases hc
      · split at hc
        · cases hc; simp only [insA, ex, slAA, optNat_congr 0 lo elo, optNat_congr _ hi ehi]
        · cases hc
      · cases hc
    · rename_i s x j ho
      have ex := m1 x (by rw [ho]; simp [Op.operands])
      unfold compFaddr at hc
      split at hc
      · split at hc
        · split at hc
          · split at hc
            · cases hc
            · cases hc; simp only [insA, ex]
          · cases hc
        · cases hc
      · cases hc
    · rename_i s x j ho
      have ex := m1 x (by rw [ho]; simp [Op.operands])
      unfold compField at hc
      split at hc
      · split at hc
        · split at hc
          · split at hc <;> cases hc <;> simp only [insA, ex]
          · cases hc
        · cases hc
      · cases hc
    · rename_i t x y ho
      have ex := m1 x (by rw [ho]; simp [Op.operands])
      have ey := m1 y (by rw [ho]; simp [Op.operands])
      unfold compIaddr at hc
      split at hc
      · split at hc
        · cases hc; simp only [insA, ex, ey]
        · cases hc
      · split at hc
        · cases hc; simp only [insA, ex, ey]
        · cases hc
      · cases hc
    · rename_i t x y ho
      have ex := m1 x (by rw [ho]; simp [Op.operands])
      have ey := m1 y (by rw [ho]; simp [Op.operands])
      unfold compIndex at hc
      split at hc
      · split at hc
        · split at hc <;> cases hc <;> simp only [insA, ex, ey]
        · cases hc
      · cases hc; exact hg
      · cases hc
    · rename_i t m k ok ho
      have em := m1 m (by rw [ho]; simp [Op.operands])
      have ek := m1 k (by rw [ho]; simp [Op.operands])
      split at hc
      · split at hc
        · split at hc
          · cases hc; simp only [insA, em, ek, lookA, hg]
          · cases hc
        · cases hc
      · cases hc
    · rename_i t m k x ho
      split at hc
      · cases hc; simp only [insA, m1 m (by rw [ho]; simp [Op.operands]), m1 k (by rw [ho]; simp [Op.operands]), m1 x (by rw [ho]; simp [Op.operands])]
      · cases hc
    · rename_i t m k x ho
      split at hc
      · cases hc; simp only [insA, m1 m (by rw [ho]; simp [Op.operands]), m1 k (by rw [ho]; simp [Op.operands]), m1 x (by rw [ho]; simp [Op.operands])]
      · cases hc
    · rename_i x j ho; cases hc; simp only [insA, m1 x (by rw [ho]; simp [Op.operands])]
    · cases hc; exact hg
    · rename_i c ho
      have margs : ∀ x ∈ c.args.toList, evl e x = evl e' x := fun x hx => m1 x (by rw [ho]; simp only [Op.operands, Call.operands, Array.toList_append, List.mem_append]; exact .inr hx)
      split at hc
      · rename_i b hb
        unfold compBuiltin at hc
        split at hc
        · rename_i x hx1
          have ex := margs x (by rw [hx1]; simp)
          split at hc
          · cases hc; simp only [insA, ex, lenIA, lenF, hg]
          · cases hc; simp only [insA, ex, lenMA, hg]
          · cases hc; exact hg
          · cases hc
        · rename_i x hx1
          split at hc
          · cases hc; simp only [insA, margs x (by rw [hx1]; simp)]
          · cases hc
        · rename_i s x hx1
          split at hc
          · split at hc
            · split at hc
              · cases hc; simp only [insA, hgg, margs s (by rw [hx1]; simp), margs x (by rw [hx1]; simp)]
              · cases hc
            · cases hc
          · cases hc
        · rename_i d s hx1
          split at hc
          · split at hc
            · split at hc
              · cases hc; simp only [insA, margs s (by rw [hx1]; simp), margs d (by rw [hx1]; simp)]
              · cases hc
            · cases hc
          · cases hc
        · rename_i x hx1; cases hc; simp only [insA, margs x (by rw [hx1]; simp)]
        · cases hc; exact hg
        · cases hc; exact hg
        · cases hc; exact hg
        · cases hc; exact hg
        · cases hc; exact hg
        · unfold compMore at hc
          split at hc
          · unfold compUstr at hc
            split at hc
            · rename_i x n hx1
              split at hc
              · cases hc; simp only [insA, margs x (by rw [hx1]; simp), margs n (by rw [hx1]; simp)]
              · cases hc
            · cases hc
          · split at hc
            · unfold compDel at hc
              split at hc
              · rename_i m k hx1
                split at hc
                · cases hc; simp only [insA, margs m (by rw [hx1]; simp), margs k (by rw [hx1]; simp)]
                · cases hc
              · cases hc
            · cases hc
      · rename_i g hg1
        split at hc
        · cases hc; simp only [insA]; rw [evls_congr _ margs]
        · split at hc
          · unfold compSame at hc
            split at hc
            · rename_i x hx1; cases hc; simp only [insA, margs x (by rw [hx1]; simp)]
            · cases hc
          · unfold compExt at hc
            split at hc
            · unfold compMk at hc
              split at hc
              · rename_i x hx1; cases hc; simp only [insA, margs x (by rw [hx1]; simp)]
              · cases hc
            · cases hc; exact hg
      · rename_i g _ hg1
        cases hc
        simp only [insA]
        rw [evls_congr _ margs, m1 g (by rw [ho]; simp [Op.operands, Call.operands, hg1])]
      · cases hc
    · cases hc
  · cases hc

/- SIMPLE ONES -/

/-- No block, no effect. -/
def Quiet (r : ARes) : Prop := r = .none ∨ ∃ v, r = val v

theorem Quiet.nb {r : ARes} (h : Quiet r) {v : Value} {nb : Option ABlk} (e : r = .simple v nb) : nb = none := by
  rcases h with h | ⟨x, h⟩
  · rw [h] at e; cases e
  · rw [h] at e; cases e; rfl

theorem quiet_none : Quiet .none := .inl rfl
theorem quiet_val (v : Value) : Quiet (val v) := .inr ⟨v, rfl⟩
theorem quiet_cond {b : Bool} {r s : ARes} (h : Quiet r) (h' : Quiet s) : Quiet (bif b then r else s) := by cases b <;> assumption
theorem quiet_valO (o : Option Value) : Quiet (valO o) := by cases o; exact quiet_none; exact quiet_val _

theorem quiet_gen (e : Env) (o : Oper) : Quiet (genA P e o) := by
  unfold genA
  refine quiet_cond ?_ quiet_none
  split
  · exact quiet_cond (quiet_val _) quiet_none
  · exact quiet_none

theorem quiet_forceN {n : Nat} {g : Nat → Value} : Quiet (forceN n fun k => val (g k)) := by rw [forceN_eq]; exact quiet_val _

theorem quiet_faddr (off : Nat) (x : Value) : Quiet (faddrA off x) := by
  unfold faddrA
  split
  · exact quiet_forceN
  · unfold faddrF; split
    · exact quiet_forceN
    · exact quiet_none

theorem quiet_fld1 (off : Nat) (x : Value) : Quiet (fld1A off x) := by
  unfold fld1A
  split
  · exact quiet_valO _
  · exact quiet_none

theorem quiet_fldN (off s : Nat) (x : Value) : Quiet (fldNA off s x) := by
  unfold fldNA
  split
  · exact quiet_cond (quiet_val _) quiet_none
  · exact quiet_none

theorem quiet_slZero (l h : Nat) : Quiet (slZero l h) := quiet_cond (quiet_val _) quiet_none
theorem quiet_slExact (s : Nat) (a : Addr) (c l h : Nat) : Quiet (slExact s a c l h) := quiet_cond (quiet_val _) quiet_none
theorem quiet_slMax (H : AH) (s : Nat) (a : Addr) (n c l h m : Nat) : Quiet (slMax H s a n c l h m) := quiet_cond (quiet_val _) quiet_none
theorem quiet_slOpen (H : AH) (s : Nat) (a : Addr) (n l h : Nat) : Quiet (slOpen H s a n l h) := quiet_cond (quiet_cond (quiet_val _) (quiet_val _)) quiet_none
theorem quiet_slAny (H : AH) (s : Nat) (a : Addr) (n c l h : Nat) : Quiet (slAny H s a n c l h) := by
  unfold slAny
  split
  · exact quiet_slOpen _ _ _ _ _ _
  · exact quiet_slZero _ _
  · exact quiet_slExact _ _ _ _ _
theorem quiet_slAnyM (H : AH) (s : Nat) (a : Addr) (n c l h m : Nat) : Quiet (slAnyM H s a n c l h m) := by
  unfold slAnyM
  split
  · exact quiet_cond (quiet_slZero _ _) quiet_none
  · exact quiet_slMax _ _ _ _ _ _ _ _
theorem quiet_slF (e : Env) (s : Nat) (lo hi mx : Option Operand) (o : Oper) (p : Option (Nat × List Value)) : Quiet (slF P e s lo hi mx o p) := by
  unfold slF
  split
  · split
    · unfold slF2
      split
      · exact quiet_cond (quiet_cond (quiet_val _) (quiet_val _)) quiet_none
      · split
        · unfold slFm
          split
          · exact quiet_cond (quiet_cond (quiet_val _) quiet_none) quiet_none
          · exact quiet_none
        · exact quiet_none
    · exact quiet_none
  · exact quiet_gen _ _

theorem quiet_sl (e : Env) (H : AH) (s : Nat) (x : Value) (lo hi mx : Option Operand) (o : Oper) : Quiet (slSA P e H s x lo hi mx o) := by
  unfold slSA
  split
  · split
    · split
      · exact quiet_slAny _ _ _ _ _ _ _
      · split
        · exact quiet_slAnyM _ _ _ _ _ _ _ _
        · exact quiet_none
    · exact quiet_none
  · exact quiet_slF _ _ _ _ _ _ _

theorem quiet_load1 (H : AH) (x : Value) : Quiet (load1A H x) := by
  rcases load1A_cases H x with h | ⟨y, h⟩
  · exact .inl h
  · exact .inr ⟨y, h⟩
theorem quiet_loadN (H : AH) (n : Nat) (x : Value) : Quiet (loadNA H n x) := by
  rcases loadNA_cases H n x with h | ⟨y, h⟩
  · exact .inl h
  · exact .inr ⟨y, h⟩

theorem quiet_look (e : Env) (H : AH) (kt : Nat) (z : Value) (ok : Bool) (m k : Value) (o : Oper) : Quiet (lookA P e H kt z ok m k o) := by
  unfold lookA
  split
  · split
    · refine quiet_cond ?_ quiet_none
      unfold lookRes
      split
      · exact quiet_val _
      · exact quiet_val _
      · exact quiet_none
    · exact quiet_none
  · exact quiet_gen _ _

theorem quiet_b2s (e : Env) (H : AH) (x : Value) (o : Oper) : Quiet (b2sA P e H x o) := by
  unfold b2sA
  split
  · exact quiet_val _
  · split
    · exact quiet_cond (quiet_val _) quiet_none
    · exact quiet_none
  · unfold b2sF
    split
    · exact quiet_cond (quiet_cond (quiet_val _) quiet_none) quiet_none
    · exact quiet_gen _ _

/-- No effect comes of an append that gives a value alone. -/
def Loud (r : ARes) : Prop := r = .none ∨ ∃ v H, r = .eff v H

theorem Loud.no {r : ARes} (h : Loud r) {v : Value} {nb : Option ABlk} (e : r = .simple v nb) : False := by
  rcases h with h | ⟨x, H, h⟩
  · rw [h] at e; cases e
  · rw [h] at e; cases e

theorem loud_none : Loud .none := .inl rfl
theorem loud_eff (v : Value) (H : AH) : Loud (.eff v H) := .inr ⟨v, H, rfl⟩
theorem loud_cond {b : Bool} {r s : ARes} (h : Loud r) (h' : Loud s) : Loud (bif b then r else s) := by cases b <;> assumption
theorem loud_effV (v : Value) (o : Option AH) : Loud (effV v o) := by cases o; exact loud_none; exact loud_eff _ _
theorem loud_effU (o : Option AH) : Loud (effU o) := by cases o; exact loud_none; exact loud_eff _ _
theorem loud_freshAny (own : Bool) (H : AH) (el s : Nat) (cs : List Value) (n : Nat) : Loud (freshAny own H el s cs n) := by
  unfold freshAny
  exact loud_cond (loud_cond (loud_eff _ _) loud_none) (loud_cond (loud_eff _ _) loud_none)

theorem loud_app (own : Bool) (H : AH) (el s b : Nat) (x y : Value) : Loud (appA own H el s b x y) := by
  unfold appA
  split
  · unfold appNone
    split
    · exact loud_eff _ _
    · exact loud_cond (loud_eff _ _) loud_none
    · exact loud_cond (loud_eff _ _) loud_none
    · unfold appNoneF; split
      · exact loud_eff _ _
      · exact loud_none
  · split
    · unfold appOnto
      split
      · exact loud_cond (loud_freshAny _ _ _ _ _ _) loud_none
      · refine loud_cond ?_ loud_none
        unfold appOpen
        refine loud_cond ?_ loud_none
        split
        · exact loud_cond (loud_eff _ _) loud_none
        · exact loud_none
      · refine loud_cond ?_ loud_none
        unfold appExact
        refine loud_cond (loud_effV _ _) ?_
        split
        · exact loud_freshAny _ _ _ _ _ _
        · split
          · exact loud_freshAny _ _ _ _ _ _
          · exact loud_none
      · unfold appTok
        split
        · refine loud_cond ?_ loud_none
          unfold appTok2
          split
          · exact loud_cond (loud_eff _ _) loud_none
          · exact loud_none
        · exact loud_none
    · exact loud_none
  · exact loud_none

/-- What doesn't look at the heap hangs on nothing in it. -/
theorem insA_indep {e : Env} {H X : AH} {f : Nat} {i : Ins} {v : Value} {nb : Option ABlk} (hl : looks (some i) = false) (h : insA P e H f i = .simple v nb) : insA P e X f i = .simple v nb ∧ nb = none := by
  cases i with
  | mv x => cases h; exact ⟨rfl, rfl⟩
  | pick c a b =>
    refine ⟨h, ?_⟩
    have : Quiet (pickA (evl e a) (evl e b) (evl e c)) := by unfold pickA; split; exact quiet_val _; exact quiet_val _; exact quiet_none
    exact this.nb h
  | new z el => simp [looks] at hl
  | box el x => simp [looks] at hl
  | build z ps =>
    refine ⟨h, ?_⟩
    have : Quiet (buildRes (fillR z (evParts e ps))) := by unfold buildRes; split; exact quiet_val _; exact quiet_none
    exact this.nb h
  | bslice a b c d => simp [looks] at hl
  | load1 x => simp [looks] at hl
  | loadN s x => simp [looks] at hl
  | store s x y =>
    have : Loud (storeA H s (evl e x) (evl e y)) := by unfold storeA; split; exact loud_cond (loud_effU _) loud_none; exact loud_none
    exact (this.no h).elim
  | nilc x =>
    refine ⟨h, ?_⟩
    have : Quiet (nilcA (evl e x)) := by
      unfold nilcA; split
      · exact quiet_val _
      · unfold nilcF; split; exact quiet_val _; exact quiet_none
    exact this.nb h
  | int2 op x y o =>
    refine ⟨h, ?_⟩
    have : Quiet (int2A P e op (evl e x) (evl e y) o) := by
      unfold int2A; split
      · unfold orGen; split
        · exact quiet_val _
        · exact quiet_gen _ _
      · exact quiet_none
    exact this.nb h
  | ref neg d x y =>
    refine ⟨h, ?_⟩
    have : Quiet (refA neg d (evl e x) (evl e y)) := by
      unfold refA; split
      · exact quiet_val _
      · exact quiet_val _
      · exact quiet_val _
      · exact quiet_cond (quiet_val _) quiet_none
      · exact quiet_none
    exact this.nb h
  | faddr o x => exact ⟨h, (quiet_faddr o (evl e x)).nb h⟩
  | iaddrA l s x j =>
    refine ⟨h, ?_⟩
    have : Quiet (iaddrAA l s (evl e x) (evl e j)) := by
      unfold iaddrAA; split
      · exact quiet_cond (quiet_faddr _ _) quiet_none
      · exact quiet_none
    exact this.nb h
  | iaddrS s x j =>
    refine ⟨h, ?_⟩
    have : Quiet (iaddrSA s (evl e x) (evl e j)) := by
      unfold iaddrSA; split
      · unfold iaddrSS; split
        · exact quiet_cond quiet_forceN quiet_none
        · unfold iaddrSF; split
          · exact quiet_cond quiet_forceN quiet_none
          · exact quiet_none
      · exact quiet_none
    exact this.nb h
  | fld1 o x => exact ⟨h, (quiet_fld1 o (evl e x)).nb h⟩
  | fldN o s x => exact ⟨h, (quiet_fldN o s (evl e x)).nb h⟩
  | idx1 l s x j =>
    refine ⟨h, ?_⟩
    have : Quiet (idx1A l s (evl e x) (evl e j)) := by
      unfold idx1A; split
      · exact quiet_cond (quiet_fld1 _ _) quiet_none
      · exact quiet_none
    exact this.nb h
  | idxN l s x j =>
    refine ⟨h, ?_⟩
    have : Quiet (idxNA l s (evl e x) (evl e j)) := by
      unfold idxNA; split
      · exact quiet_cond (quiet_fldN _ _ _) quiet_none
      · exact quiet_none
    exact this.nb h
  | slS a b c d g o => simp [looks] at hl
  | slA n s x lo hi =>
    refine ⟨h, ?_⟩
    have : Quiet (slAA e n s (evl e x) lo hi) := by
      unfold slAA; split
      · split
        · exact quiet_slExact _ _ _ _ _
        · exact quiet_none
      · exact quiet_none
    exact this.nb h
  | len x o =>
    refine ⟨h, ?_⟩
    have : Quiet (lenIA P e (evl e x) o) := by
      unfold lenIA; split
      · exact quiet_val _
      · unfold lenF; split
        · exact quiet_val _
        · exact quiet_gen _ _
    exact this.nb h
  | lenM x o => simp [looks] at hl
  | capI x =>
    refine ⟨h, ?_⟩
    have : Quiet (capIA (evl e x)) := by unfold capIA; split; exact quiet_val _; exact quiet_val _; exact quiet_none
    exact this.nb h
  | ext x j =>
    refine ⟨h, ?_⟩
    have : Quiet (extA j (evl e x)) := by
      unfold extA; split
      · split; exact quiet_val _; exact quiet_none
      · exact quiet_none
    exact this.nb h
  | iface t x => cases h; exact ⟨rfl, rfl⟩
  | mkfn fn a b => cases h; exact ⟨rfl, rfl⟩
  | app el s b x y => exact ((loud_app e.g.2 H el s b (evl e x) (evl e y)).no h).elim
  | copy s x y =>
    have : Loud (copyA H s (evl e x) (evl e y)) := by
      unfold copyA; split
      · split
        · exact loud_eff _ _
        · split
          · exact loud_effV _ _
          · exact loud_none
      · exact loud_eff _ _
      · exact loud_none
    exact (this.no h).elim
  | mkmap => simp [looks] at hl
  | look a b c d g o => simp [looks] at hl
  | upd kt m k x =>
    have : Loud (updA P H kt (evl e m) (evl e k) (evl e x)) := by
      unfold updA updA0; split
      · split
        · refine loud_cond ?_ loud_none
          unfold updRes; split
          · split
            · exact loud_cond (loud_eff _ _) loud_none
            · exact loud_none
          · exact loud_eff _ _
          · exact loud_none
        · exact loud_none
      · exact loud_none
    exact (this.no h).elim
  | del kt m k =>
    have : Loud (delA P H kt (evl e m) (evl e k)) := by
      unfold delA; split
      · split
        · refine loud_cond ?_ loud_none
          unfold delRes; split
          · exact loud_eff _ _
          · exact loud_eff _ _
          · exact loud_none
        · exact loud_none
      · exact loud_none
    exact (this.no h).elim
  | mkslice a b c d g j => simp [looks] at hl
  | b2s x o => simp [looks] at hl
  | s2b el x => simp [looks] at hl
  | call g as => cases h
  | dyn g as =>
    exfalso
    simp only [insA] at h
    unfold dynA at h
    split at h
    · rename_i q _ _ _
      cases hq : hasBody P q with
      | false => rw [hq, cond_false] at h; cases h
      | true => rw [hq, cond_true] at h; cases h
    · cases h
  | usd x => simp [looks] at hl
  | topu x o => simp [looks] at hl
  | frpu u x o => simp [looks] at hl
  | ustr u x n => simp [looks] at hl
  | mknz el x =>
    exfalso
    simp only [insA, mknzA] at h
    split at h
    · rename_i n _
      cases hq : Nat.ble (n + 1) 1099511627776 with
      | false => rw [hq, cond_false] at h; cases h
      | true =>
        rw [hq, cond_true] at h
        unfold freshRow at h
        cases hk : okKey H.n with
        | false => rw [hk, cond_false] at h; cases h
        | true => rw [hk, cond_true] at h; cases h
    · cases h
  | gen o => exact ⟨h, (quiet_gen e o).nb h⟩

/- WHAT IS READ -/

def Agree (H X : AH) (ids : List Nat) : Prop := ∀ id ∈ ids, ∀ b, H.get id = some b → X.get id = some b

theorem rdBlk_keep {H X : AH} {a : Addr} {n : Nat} {b : CBlk} (h : rdBlk H a n = some b) (hx : ∀ b, H.get a.block = some b → X.get a.block = some b) : rdBlk X a n = some b := by
  have := (rdBlk_some h).1
  unfold rdBlk at h ⊢
  rw [hx _ this]
  rw [this] at h
  exact h

theorem openOk_keep {H X : AH} {s : Nat} {a : Addr} {n : Nat} (h : openOk s a H n = true) (hx : ∀ b, H.get a.block = some b → X.get a.block = some b) : openOk s a X n = true := by
  obtain ⟨b, h1, _⟩ := openOk_some h
  have h2 := rdBlk_keep h1 hx
  unfold openOk at h ⊢
  rw [h1] at h
  rw [h2]
  exact h

theorem ustrF_simple {u : TypeId} {H : AH} {n : Nat} (o : Option (Nat × Nat × List Value)) {v : Value} {nb : Option ABlk} : ustrF P H u n o ≠ .simple v nb := by
  intro h
  unfold ustrF ustrB at h
  split at h
  · split at h
    · rename_i k el es _
      cases hq : (Nat.beq k _ && _) with
      | true => rw [hq] at h; cases h
      | false => rw [hq] at h; cases h
    · cases h
  · cases h
theorem ustrF_eff {u : TypeId} {H H' : AH} {n : Nat} (o : Option (Nat × Nat × List Value)) {v : Value} (h : ustrF P H u n o = .eff v H') : H' = H := by
  unfold ustrF ustrB at h
  split at h
  · split at h
    · rename_i k el es _
      cases hq : (Nat.beq k _ && _) with
      | true => rw [hq] at h; cases h; rfl
      | false => rw [hq] at h; cases h
    · cases h
  · cases h

theorem cond_simple {b : Bool} {r : ARes} {v : Value} {nb : Option ABlk} (h : (bif b then r else .none) = .simple v nb) : b = true ∧ r = .simple v nb := by
  cases b with
  | true => exact ⟨rfl, h⟩
  | false => cases h

theorem insA_reads {e : Env} {H X : AH} {f : Nat} {i : Ins} {v : Value} {nb : Option ABlk} (hl : looks (some i) = true) (hx : Agree H X (rdIds e i)) (h : insA P e H f i = .simple v nb) : insA P e X f i = .simple v nb := by
  cases i with
  | new z el => exact h
  | box el x => exact h
  | bslice a b c d => exact h
  | mkmap => exact h
  | mkslice a b c d g j => exact h
  | s2b el x => exact h
  | load1 x =>
    simp only [insA, rdIds] at h hx ⊢
    generalize evl e x = y at *
    unfold load1A at h ⊢
    split at h
    · rename_i a
      have hx := hx a.block (by simp [idOf])
      split at h
      · rename_i b hb
        simp only [rdBlk_keep hb hx]
        exact h
      · cases h
    · exact h
  | loadN n x =>
    simp only [insA, rdIds] at h hx ⊢
    generalize evl e x = y at *
    unfold loadNA at h ⊢
    split at h
    · rename_i a
      have hx := hx a.block (by simp [idOf])
      split at h
      · rename_i b hb
        simp only [rdBlk_keep hb hx]
        exact h
      · cases h
    · exact h
  | slS s x lo hi mx o =>
    simp only [insA, rdIds] at h hx ⊢
    generalize evl e x = y at *
    unfold slSA at h ⊢
    split at h
    · rename_i a len c
      have hxa := hx a.block (by simp [idOf])
      split at h
      · rename_i l hh e1 e2
        split at h
        · unfold slAny at h ⊢
          split at h
          · unfold slOpen at h ⊢
            obtain ⟨h1, h2⟩ := cond_simple h
            simp only [Bool.and_eq_true] at h1
            rw [h1.1, h1.2.1, openOk_keep h1.2.2 hxa]
            exact h2
          · exact h
          · exact h
        · rename_i y2
          split at h
          · rename_i m z e3
            unfold slAnyM at h ⊢
            split at h
            · exact h
            · rename_i c' hc'
              unfold slMax at h ⊢
              obtain ⟨h1, h2⟩ := cond_simple h
              simp only [Bool.and_eq_true] at h1
              have h3 : maxOk X s a len c = true := by
                have := h1.2.2.2
                unfold maxOk at this ⊢
                split at this
                · simp only [Bool.and_eq_true] at this ⊢
                  exact ⟨this.1, openOk_keep this.2 hxa⟩
                · exact this
              rw [h1.1, h1.2.1, h1.2.2.1, h3]
              exact h2
          · cases h
      · cases h
    · exact h
  | lenM x o =>
    simp only [insA, rdIds] at h hx ⊢
    generalize evl e x = y at *
    unfold lenMA at h ⊢
    split at h
    · rename_i r
      have hx := hx r (by simp [idOf])
      split at h
      · rename_i es hes
        simp only [hx _ hes]
        exact h
      · cases h
    · exact h
  | look kt z ok m k o =>
    simp only [insA, rdIds] at h hx ⊢
    generalize evl e m = y at *
    unfold lookA at h ⊢
    split at h
    · rename_i r
      have hx := hx r (by simp [idOf])
      split at h
      · rename_i es hes
        simp only [hx _ hes]
        exact h
      · cases h
    · exact h
  | b2s x o =>
    simp only [insA, rdIds] at h hx ⊢
    generalize evl e x = y at *
    unfold b2sA at h ⊢
    split at h
    · exact h
    · rename_i a len c hne
      have hx := hx a.block (by simp [idOf])
      split at h
      · rename_i l hel
        have : elemsA X 1 len (.slice (some a) len c) = some l := by
          unfold elemsA at hel ⊢
          dsimp only at hel ⊢
          cases hq : (Nat.ble len len && Nat.blt 0 len) with
          | false => rw [hq, cond_false] at hel; cases hel
          | true =>
            rw [hq, cond_true] at hel
            rw [cond_true]
            split at hel
            · rename_i b hb
              rw [rdBlk_keep hb hx]
              exact hel
            · cases hel
        simp only [this]
        exact h
      · cases h
    · exact h
  | usd x =>
    simp only [insA, rdIds] at h hx ⊢
    generalize evl e x = y at *
    unfold usdA at h ⊢
    split at h
    · rename_i a len
      have hx := hx a.block (by simp [idOf])
      obtain ⟨h1, h2⟩ := cond_simple h
      simp only [openOk_keep h1 hx, cond_true]
      exact h2
    · exact h
    · exact h
    · exact h
  | topu x o =>
    simp only [insA, rdIds] at h hx ⊢
    generalize evl e x = y at *
    unfold topuA at h ⊢
    split at h
    · rename_i a
      have hx := hx a.block (by simp [idOf])
      split at h
      · rename_i b hb
        simp only [rdBlk_keep hb hx]
        exact h
      · cases h
    · exact h
  | frpu u x o =>
    simp only [insA, rdIds] at h hx ⊢
    generalize evl e x = y at *
    unfold frpuA at h ⊢
    split at h
    · rename_i a
      have hx := hx a.block (by simp [idOf])
      split at h
      · rename_i b hb
        simp only [rdBlk_keep hb hx]
        exact h
      · cases h
    · exact h
  | ustr u x n =>
    simp only [insA, rdIds] at h hx ⊢
    unfold ustrA at h ⊢
    split at h
    · exact h
    · rename_i m _
      split at h
      · split at h
        · rename_i b hb
          obtain ⟨_, h2⟩ := cond_simple h
          unfold ustrOf at h2
          obtain ⟨_, h3⟩ := cond_simple h2
          cases h3
        · cases h
      · exact absurd h (ustrF_simple _)
    · cases h
  | _ => simp [looks] at hl

/- WHAT IS CHANGED -/

theorem cond_eff {b : Bool} {r : ARes} {v : Value} {H : AH} (h : (bif b then r else .none) = .eff v H) : b = true ∧ r = .eff v H := by
  cases b with
  | true => exact ⟨rfl, h⟩
  | false => cases h

theorem set_other {H : AH} {k id : Nat} {b : ABlk} (hk : okKey k = true) (h : id ≠ k) : (H.set k b).get id = H.get id := by
  rw [AH.get_set hk, if_neg h]

/-- Blocks are low, and those that aren't named stay. -/
def Fr (H H' : AH) (wr : List Nat) : Prop := Low H' ∧ ∀ id, id ∉ wr → id < H.n → H'.get id = H.get id

theorem Fr.refl {H : AH} (h : Low H) (wr : List Nat) : Fr H H wr := ⟨h, fun _ _ _ => rfl⟩

theorem fr_set {H : AH} (h : Low H) {k : Nat} {b c : ABlk} {wr : List Nat} (hk : okKey k = true) (hg : H.get k = some c) (hw : k ∈ wr) : Fr H (H.set k b) wr := by
  refine ⟨fun id d hd => ?_, fun id hid _ => ?_⟩
  · rw [AH.get_set hk] at hd
    rw [AH.set_eq]
    simp only
    split at hd
    · rename_i e; rw [e]; exact h k c hg
    · exact h id d hd
  · rw [AH.get_set hk, if_neg fun e => hid (by rw [e]; exact hw)]

theorem fr_push {H : AH} (h : Low H) {b : ABlk} {wr : List Nat} (hk : okKey H.n = true) : Fr H (H.push b) wr :=
  ⟨h.push hk b, fun id _ hlt => by rw [AH.get_push hk, if_neg (by omega)]⟩

theorem store_frame {H H' : AH} {a : Addr} {vs : List Value} {wr : List Nat} (hlow : Low H) (h : storeCellsA H a vs = some H') (hw : a.block ∈ wr) : Fr H H' wr := by
  unfold storeCellsA at h
  split at h
  · rename_i b hb
    cases hq : vs.all oneCell with
    | false => rw [hq, cond_false] at h; cases h
    | true =>
      rw [hq, cond_true] at h
      cases h
      exact fr_set hlow (wrBlk_some hb).2.2.2 (rdBlk_some (wrBlk_some hb).1).1 hw
  · cases h

theorem freshAny_frame {own : Bool} {H H' : AH} {el s : Nat} {cs : List Value} {n : Nat} {v : Value} {wr : List Nat} (hlow : Low H) (h : freshAny own H el s cs n = .eff v H') : Fr H H' wr := by
  unfold freshAny at h
  cases own with
  | true =>
    rw [cond_true] at h
    unfold freshTok at h
    obtain ⟨h1, h2⟩ := cond_eff h
    unfold tokOk at h1
    simp only [Bool.and_eq_true] at h1
    cases h2
    exact fr_push hlow h1.2.2
  | false =>
    rw [cond_false] at h
    unfold freshRow at h
    obtain ⟨h1, h2⟩ := cond_eff h
    cases h2
    exact fr_push hlow h1

theorem insA_frame {e : Env} {H H' : AH} {f : Nat} {i : Ins} {v : Value} (hlow : Low H) (h : insA P e H f i = .eff v H') : Fr H H' (effWr e i) := by
  have quiet : ∀ {r : ARes}, Quiet r → r = .eff v H' → Fr H H' (effWr e i) := by
    intro r h1 h2
    rcases h1 with h1 | ⟨x, h1⟩
    · rw [h1] at h2; cases h2
    · rw [h1] at h2; cases h2
  cases i with
  | store s x y =>
    simp only [insA, effWr] at h ⊢
    generalize evl e x = u at *
    unfold storeA at h
    split at h
    · rename_i a
      obtain ⟨_, h2⟩ := cond_eff h
      cases hst : storeCellsA H a (evl e y).cells.toList with
      | none => rw [hst] at h2; cases h2
      | some H2 => rw [hst] at h2; cases h2; exact store_frame hlow hst (by simp [idOf])
    · cases h
  | app el s b x y =>
    simp only [insA, effWr] at h ⊢
    generalize evl e x = u at *
    generalize evl e y = w at *
    unfold appA at h
    split at h
    · unfold appNone at h
      split at h
      · cases h; exact .refl hlow _
      · obtain ⟨_, h2⟩ := cond_eff h; cases h2; exact .refl hlow _
      · obtain ⟨_, h2⟩ := cond_eff h; cases h2; exact .refl hlow _
      · unfold appNoneF at h
        split at h
        · cases h; exact .refl hlow _
        · cases h
    · split at h
      · rename_i new _
        unfold appOnto at h
        split at h
        · obtain ⟨_, h2⟩ := cond_eff h; exact freshAny_frame hlow h2
        · rename_i a len
          obtain ⟨_, h2⟩ := cond_eff h
          unfold appOpen at h2
          obtain ⟨_, h3⟩ := cond_eff h2
          split at h3
          · rename_i bb hbb
            obtain ⟨h4, h5⟩ := cond_eff h3
            unfold tailOk at h4
            simp only [Bool.and_eq_true] at h4
            cases h5
            exact fr_set hlow h4.1.2.2.2.2 (rdBlk_some hbb).1 (by simp [idOf])
          · cases h3
        · rename_i a len c
          obtain ⟨_, h2⟩ := cond_eff h
          unfold appExact at h2
          cases hq : Nat.ble (len + _) c with
          | true =>
            rw [hq, cond_true] at h2
            cases hst : storeCellsA H ⟨a.block, a.off + len * s, a.spot⟩ new with
            | none => rw [hst] at h2; cases h2
            | some H2 => rw [hst] at h2; cases h2; exact store_frame hlow hst (by simp [idOf])
          | false =>
            rw [hq, cond_false] at h2
            split at h2
            · exact freshAny_frame hlow h2
            · split at h2
              · exact freshAny_frame hlow h2
              · cases h2
        · unfold appTok at h
          split at h
          · rename_i q hq
            obtain ⟨_, h2⟩ := cond_eff h
            unfold appTok2 at h2
            split at h2
            · rename_i hget
              obtain ⟨h4, h5⟩ := cond_eff h2
              unfold growOk at h4
              simp only [Bool.and_eq_true] at h4
              cases h5
              rw [asFO_some hq]
              exact fr_set hlow h4.2.2.2.2.2.2 hget (by simp [idOf, FO])
            · cases h2
          · cases h
      · cases h
    · cases h
  | copy s x y =>
    simp only [insA, effWr] at h ⊢
    generalize evl e x = u at *
    unfold copyA at h
    split at h
    · rename_i a dl dc xl _
      split at h
      · cases h; exact .refl hlow _
      · split at h
        · rename_i cs _
          cases hst : storeCellsA H a cs with
          | none => rw [hst] at h; cases h
          | some H2 => rw [hst] at h; cases h; exact store_frame hlow hst (by simp [idOf])
        · cases h
    · cases h; exact .refl hlow _
    · cases h
  | upd kt m k x =>
    simp only [insA, effWr] at h ⊢
    generalize evl e m = u at *
    unfold updA updA0 at h
    split at h
    · rename_i r
      split at h
      · rename_i hget
        obtain ⟨h1, h2⟩ := cond_eff h
        simp only [Bool.and_eq_true] at h1
        unfold updRes at h2
        split at h2
        · split at h2
          · obtain ⟨_, h3⟩ := cond_eff h2; cases h3; exact fr_set hlow h1.2 hget (by simp [idOf])
          · cases h2
        · cases h2; exact fr_set hlow h1.2 hget (by simp [idOf])
        · cases h2
      · cases h
    · cases h
  | del kt m k =>
    simp only [insA, effWr] at h ⊢
    generalize evl e m = u at *
    unfold delA at h
    split at h
    · rename_i r
      split at h
      · rename_i hget
        obtain ⟨h1, h2⟩ := cond_eff h
        simp only [Bool.and_eq_true] at h1
        unfold delRes at h2
        split at h2
        · cases h2; exact fr_set hlow h1.2 hget (by simp [idOf])
        · cases h2; exact fr_set hlow h1.2 hget (by simp [idOf])
        · cases h2
      · cases h
    · cases h
  | ustr u x n =>
    simp only [insA, effWr] at h ⊢
    generalize evl e x = y at *
    unfold ustrA at h
    split at h
    · split at h <;> cases h
    · split at h
      · rename_i a
        split at h
        · rename_i bb hbb
          obtain ⟨_, h2⟩ := cond_eff h
          unfold ustrOf at h2
          obtain ⟨h3, h4⟩ := cond_eff h2
          simp only [Bool.and_eq_true] at h3
          cases h4
          exact fr_set hlow h3.2.2 (rdBlk_some hbb).1 (by simp [idOf])
        · cases h
      · rw [ustrF_eff _ h]
        exact Fr.refl hlow _
    · cases h
  | mknz el x =>
    simp only [insA, mknzA] at h
    split at h
    · obtain ⟨_, h2⟩ := cond_eff h
      unfold freshRow at h2
      obtain ⟨h3, h4⟩ := cond_eff h2
      cases h4
      exact fr_push hlow h3
    · cases h
  | mv x => cases h
  | pick c a b => simp only [insA, pickA] at h; split at h <;> cases h
  | new z el => cases h
  | box el x => simp only [insA] at h; cases hj : isJK (evl e x) <;> (rw [hj] at h; cases h)
  | build z ps => simp only [insA, buildRes] at h; split at h <;> cases h
  | bslice a b c d => simp only [insA, fillRes] at h; split at h <;> cases h
  | load1 x => exact quiet (quiet_load1 H (evl e x)) h
  | loadN s x => exact quiet (quiet_loadN H s (evl e x)) h
  | nilc x =>
    simp only [insA, nilcA] at h
    split at h
    · cases h
    · unfold nilcF at h; split at h <;> cases h
  | int2 op x y o =>
    simp only [insA, int2A] at h
    split at h
    · unfold orGen at h
      split at h
      · cases h
      · exact quiet (quiet_gen e o) h
    · cases h
  | ref neg d x y =>
    simp only [insA, refA] at h
    split at h <;> first | (cases h; done) | (obtain ⟨_, h2⟩ := cond_eff h; cases h2)
  | faddr o x => exact quiet (quiet_faddr o (evl e x)) h
  | iaddrA l s x j =>
    simp only [insA, iaddrAA] at h
    split at h
    · obtain ⟨_, h2⟩ := cond_eff h; exact quiet (quiet_faddr _ _) h2
    · cases h
  | iaddrS s x j =>
    simp only [insA, iaddrSA] at h
    split at h
    · unfold iaddrSS at h
      split at h
      · obtain ⟨_, h2⟩ := cond_eff h; rw [forceN_eq] at h2; cases h2
      · unfold iaddrSF at h
        split at h
        · obtain ⟨_, h2⟩ := cond_eff h; rw [forceN_eq] at h2; cases h2
        · cases h
    · cases h
  | fld1 o x => exact quiet (quiet_fld1 o (evl e x)) h
  | fldN o s x => exact quiet (quiet_fldN o s (evl e x)) h
  | idx1 l s x j =>
    simp only [insA, idx1A] at h
    split at h
    · obtain ⟨_, h2⟩ := cond_eff h; exact quiet (quiet_fld1 _ _) h2
    · cases h
  | idxN l s x j =>
    simp only [insA, idxNA] at h
    split at h
    · obtain ⟨_, h2⟩ := cond_eff h; exact quiet (quiet_fldN _ _ _) h2
    · cases h
  | slS s x lo hi mx o => exact quiet (quiet_sl e H s (evl e x) lo hi mx o) h
  | slA n s x lo hi =>
    simp only [insA, slAA] at h
    split at h
    · split at h
      · exact quiet (quiet_slExact _ _ _ _ _) h
      · cases h
    · cases h
  | len x o =>
    simp only [insA, lenIA] at h
    split at h
    · cases h
    · unfold lenF at h
      split at h
      · cases h
      · exact quiet (quiet_gen e o) h
  | lenM x o =>
    simp only [insA, lenMA] at h
    split at h
    · split at h <;> cases h
    · exact quiet (quiet_gen e o) h
  | capI x => simp only [insA, capIA] at h; split at h <;> cases h
  | ext x j =>
    simp only [insA, extA] at h
    split at h
    · split at h <;> cases h
    · cases h
  | iface t x => cases h
  | mkfn fn a b => cases h
  | mkmap => cases h
  | look kt z ok m k o => exact quiet (quiet_look e H kt z ok (evl e m) (evl e k) o) h
  | mkslice a b c d g j =>
    simp only [insA, mksliceA] at h
    split at h
    · obtain ⟨_, h2⟩ := cond_eff h; cases h2
    · cases h
  | b2s x o => exact quiet (quiet_b2s e H (evl e x) o) h
  | s2b el x => simp only [insA, s2bA] at h; split at h <;> cases h
  | call g as => cases h
  | dyn g as =>
    simp only [insA, dynA] at h
    split at h
    · obtain ⟨_, h2⟩ := cond_eff h; cases h2
    · cases h
  | usd x =>
    simp only [insA, usdA] at h
    split at h
    · obtain ⟨_, h2⟩ := cond_eff h; cases h2
    · cases h
    · cases h
    · unfold usdF at h
      split at h
      · obtain ⟨_, h2⟩ := cond_eff h; cases h2
      · cases h
  | topu x o =>
    simp only [insA, topuA] at h
    split at h
    · split at h <;> cases h
    · exact quiet (quiet_gen e o) h
  | frpu u x o =>
    simp only [insA, frpuA] at h
    split at h
    · split at h
      · obtain ⟨_, h2⟩ := cond_eff h; cases h2
      · cases h
    · exact quiet (quiet_gen e o) h
  | gen o => exact quiet (quiet_gen e o) h

end
end Go.Den
