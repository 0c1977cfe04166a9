/-
  THE ENGINE, part Rb: live rows become frozen ones.
-/
import Derived.Test.YtjihbfdbgamcdaaGreatDoorE2Ra
namespace Go.Den
noncomputable section

variable {P : Program}

/-- A cell that is frozen by one of these. -/
def FrOf (ρ : Ren) (H : AH) (fr : Frs) (b i : Nat) : Prop := ∃ p ∈ fr, ∃ ver l c, ρ p.1 ver = some l ∧ l.block = b ∧ i < p.2 ∧ H.get p.1 = some (.cells c)

open Classical in
/-- The renaming with the cells that are frozen now. -/
def Ren.frz (ρ : Ren) (H : AH) (w : World) (fr : Frs) : Ren := ⟨ρ.loc, fun b i => match ρ.cell b i with
  | some v => some v
  | none => if FrOf ρ H fr b i then w.cell? ⟨b, i, none⟩ else none⟩

theorem frz_cell {ρ : Ren} {H : AH} {w : World} {fr : Frs} {b i : Nat} {v : Value} (h : (ρ.frz H w fr).cell b i = some v) : ρ.cell b i = some v ∨ (FrOf ρ H fr b i ∧ w.cell? ⟨b, i, none⟩ = some v) := by
  unfold Ren.frz at h
  simp only at h
  cases hq : ρ.cell b i with
  | some u => rw [hq] at h; exact .inl h
  | none =>
    rw [hq] at h
    simp only at h
    split at h
    · rename_i hf; exact .inr ⟨hf, h⟩
    · cases h

theorem frz_sub (ρ : Ren) (H : AH) (w : World) (fr : Frs) : Sub ρ (ρ.frz H w fr) := ⟨fun _ _ _ h => h, fun b i v h => by unfold Ren.frz; simp only; rw [h]⟩

theorem FrOf.mono {ρ : Ren} {H : AH} {fr fr' : Frs} (hs : ∀ p ∈ fr, p ∈ fr') {b i : Nat} (h : FrOf ρ H fr b i) : FrOf ρ H fr' b i := by
  obtain ⟨p, h1, h2⟩ := h
  exact ⟨p, hs p h1, h2⟩

theorem frz_mono {ρ : Ren} {H : AH} {w : World} {fr fr' : Frs} (hs : ∀ p ∈ fr, p ∈ fr') : Sub (ρ.frz H w fr) (ρ.frz H w fr') := by
  refine ⟨fun _ _ _ h => h, fun b i v h => ?_⟩
  rcases frz_cell h with h1 | ⟨h1, h2⟩
  · exact (frz_sub ρ H w fr').cell b i v h1
  · unfold Ren.frz
    simp only
    cases hq : ρ.cell b i with
    | some u =>
      unfold Ren.frz at h
      simp only [hq] at h
      exact h
    | none => simp only; rw [if_pos (h1.mono hs)]; exact h2

theorem frz_get {ρ : Ren} {B : Nat} {H : AH} {w : World} (hR : Rel ρ B H w) {fr : Frs} {b i : Nat} {v : Value} (h : FrOf ρ H fr b i) (hc : w.cell? ⟨b, i, none⟩ = some v) : (ρ.frz H w fr).cell b i = some v := by
  unfold Ren.frz
  simp only
  cases hq : ρ.cell b i with
  | some u => have := hR.fz.cell b i u hq; rw [hc] at this; exact this.symm
  | none => simp only; rw [if_pos h]; exact hc

/-- Keys of what is frozen. -/
def FrKeys (fr : Frs) : Prop := ∀ p ∈ fr, okKey p.1 = true

def SealOK (ρ : Ren) (H : AH) (w : World) (r : Option (List Value × Frs)) (l' : List Value) : Prop := ∀ l2 fr, r = some (l2, fr) → FrKeys fr ∧ VRL (ρ.frz H w fr) l2 l'

theorem seal_row {ρ : Ren} {B : Nat} {H : AH} {w : World} (hR : Rel ρ B H w) {sl : List Value → Option (List Value × Frs)} (ih : ∀ l l', VRL ρ l l' → SealOK ρ H w (sl l) l') {a : Addr} {n c : Nat} {v' u : Value} {fr : Frs} (hv : VR ρ (.slice (some a) (n + 1) c) v')
    (h : sealRow P H sl a (n + 1) c = some (u, fr)) : FrKeys fr ∧ VR (ρ.frz H w fr) u v' := by
  unfold sealRow at h
  split at h
  · rename_i b hb
    cases hq : (capOk H (elemSize P b) (n + 1) a c && rdOk b (aver a) (a.off + (n + 1) * elemSize P b)) with
    | false => rw [hq, cond_false] at h; cases h
    | true =>
      rw [hq, cond_true] at h
      simp only [Bool.and_eq_true] at hq
      obtain ⟨hcap, hrd⟩ := hq
      generalize elemSize P b = size at *
      have hrb : rdBlk H a ((n + 1) * size) = some b := by
        unfold rdBlk
        rw [hb]
        simp only [hrd, cond_true]
      obtain ⟨l, g1, g2⟩ := hv.slice_inv (.inl (by omega))
      have hsz : 0 < size := by
        cases c with
        | zero => simp only [capOk] at hcap; obtain ⟨_, _, _, _, _, h5⟩ := openOk_some hcap; exact h5
        | succ c => simp only [capOk, Bool.and_eq_true, Nat.blt_eq] at hcap; exact hcap.2
      have hle : n + 1 ≤ capOf l a c := by
        cases c with
        | zero =>
          simp only [capOk] at hcap
          obtain ⟨r1, r2, r3, r4⟩ := open_room hR hcap g1
          simp only [capOf, r1]
          omega
        | succ c => simp only [capOk, Bool.and_eq_true, Nat.ble_eq] at hcap; exact hcap.1
      have hlen := rd_len hR hrb
      have hsl : (slotsOf b.cells a.off ((n + 1) * size)).length = (n + 1) * size := by simp [slotsOf]; omega
      -- the concrete cells
      have hcells : ∀ j, j < (n + 1) * size → ∃ x x', (slotsOf b.cells a.off ((n + 1) * size))[j]? = some x ∧ w.cell? ⟨l.block, a.off + j, none⟩ = some x' ∧ VR ρ x x' := by
        intro j hj
        obtain ⟨x, x', h1, h2, h3⟩ := rd_cell hR hrb g1 j hj
        refine ⟨x, x', ?_, h2, h3⟩
        simp only [slotsOf, List.getElem?_take, List.getElem?_drop, if_pos hj]
        exact h1
      let ws : List Value := (List.range ((n + 1) * size)).map fun j => (w.cell? ⟨l.block, a.off + j, none⟩).getD undef
      have hws : VRL ρ (slotsOf b.cells a.off ((n + 1) * size)) ws := by
        refine ⟨by simp [ws, hsl], ?_⟩
        intro i x x' e e'
        have hi : i < (n + 1) * size := by rw [← hsl]; exact get_lt e
        obtain ⟨y, y', h1, h2, h3⟩ := hcells i hi
        rw [h1] at e
        cases e
        simp only [ws, List.getElem?_map, List.getElem?_range hi, Option.map_some, h2, Option.getD_some, Option.some.injEq] at e'
        subst e'
        exact h3
      have key : ∀ cs f, VRL (ρ.frz H w f) cs ws → FrKeys f → noRefsL cs = true → okKey a.block = true → FrKeys ((a.block, a.off + (n + 1) * size) :: f) ∧ VR (ρ.frz H w ((a.block, a.off + (n + 1) * size) :: f)) (FL (n + 1) cs) v' := by
        intro cs f hcs hf hno hk
        refine ⟨fun p hp => ?_, ?_⟩
        · simp only [List.mem_cons] at hp
          rcases hp with rfl | hp
          · exact hk
          · exact hf p hp
        · rw [g2]
          have hcl : cs.length = (n + 1) * size := by have := hcs.1; simpa [ws] using this
          refine VR.list (a' := ⟨l.block, a.off, none⟩) hle (fun j => (w.cell? ⟨l.block, a.off + j, none⟩).getD undef) (fun i hi => ?_) (fun i x e => ?_)
          · obtain ⟨y, y', h1, h2, h3⟩ := hcells i (by omega)
            rw [h2]
            exact frz_get hR ⟨(a.block, a.off + (n + 1) * size), List.mem_cons_self, aver a, l, b, g1, rfl, by simp only; omega, hb⟩ h2
          · obtain ⟨x', e1, e2⟩ := hcs.get e
            have hi := get_lt e
            have e3 : (w.cell? ⟨l.block, a.off + i, none⟩).getD undef = x' := by
              simp only [ws, List.getElem?_map, List.getElem?_range (show i < (n + 1) * size by omega), Option.map_some, Option.some.injEq] at e1
              exact e1
            rw [e3]
            exact VR.reloc (ρ2 := (ρ.frz H w ((a.block, a.off + (n + 1) * size) :: f)).noloc) (frz_mono (fun p hp => List.mem_cons_of_mem _ hp)).cell e2 ((noRefsL_iff _).1 hno x (List.mem_of_getElem? e))
      cases hp : b.pf with
      | true =>
        simp only [hp, cond_true] at h
        cases hq2 : (noRefsL (slotsOf b.cells a.off ((n + 1) * size)) && okKey a.block) with
        | false => rw [hq2, cond_false] at h; cases h
        | true =>
          rw [hq2, cond_true] at h
          cases h
          simp only [Bool.and_eq_true] at hq2
          exact key _ [] (hws.mono (frz_sub ρ H w [])) (fun p hp => by simp at hp) hq2.1 hq2.2
      | false =>
        simp only [hp, cond_false] at h
        cases hs : sl (slotsOf b.cells a.off ((n + 1) * size)) with
        | none => rw [hs] at h; cases h
        | some r =>
          obtain ⟨cs, f⟩ := r
          rw [hs] at h
          simp only at h
          cases hq2 : (noRefsL cs && okKey a.block) with
          | false => rw [hq2, cond_false] at h; cases h
          | true =>
            rw [hq2, cond_true] at h
            cases h
            simp only [Bool.and_eq_true] at hq2
            obtain ⟨k1, k2⟩ := ih _ _ hws cs f hs
            exact key cs f k2 k1 hq2.1 hq2.2
  · cases h

theorem frKeys_nil : FrKeys [] := fun p hp => by simp at hp

theorem seal_v {ρ : Ren} {B : Nat} {H : AH} {w : World} (hR : Rel ρ B H w) {sl : List Value → Option (List Value × Frs)} (ih : ∀ l l', VRL ρ l l' → SealOK ρ H w (sl l) l') {v v' u : Value} {fr : Frs} (hv : VR ρ v v') (h : sealV1 P H sl v = some (u, fr)) : FrKeys fr ∧ VR (ρ.frz H w fr) u v' := by
  have same : ∀ (x : Value) (f : Frs), VR ρ x v' → some (x, ([] : Frs)) = some (u, f) → FrKeys f ∧ VR (ρ.frz H w f) u v' := by
    intro x f hx he
    cases he
    exact ⟨frKeys_nil, hx.mono (frz_sub ρ H w [])⟩
  unfold sealV1 at h
  split at h
  · cases h
    rw [hv.of_flat rfl]
    exact ⟨frKeys_nil, .listNo⟩
  · cases h
    obtain ⟨a', c', rfl⟩ := hv.slice_len
    exact ⟨frKeys_nil, .listNo⟩
  · exact seal_row hR ih hv h
  · rename_i cs
    obtain ⟨cs', rfl, h2⟩ := hv.agg_inv
    split at h
    · rename_i l f hs
      cases h
      obtain ⟨k1, k2⟩ := ih _ _ h2 _ _ hs
      exact ⟨k1, .agg_mk k2⟩
    · cases h
  · rename_i cs
    obtain ⟨cs', rfl, h2⟩ := hv.tuple_inv
    split at h
    · rename_i l f hs
      cases h
      obtain ⟨k1, k2⟩ := ih _ _ h2 _ _ hs
      exact ⟨k1, .tuple_mk k2⟩
    · cases h
  · rename_i t v
    have hi : ∃ x', v' = .iface t x' ∧ VR ρ v x' := by
      cases hv with
      | flat hf => simp only [Go.Den.flat] at hf; exact ⟨v, rfl, .flat hf⟩
      | iface h => exact ⟨_, rfl, h⟩
    obtain ⟨x', rfl, h2⟩ := hi
    split at h
    · rename_i u' f hs
      cases h
      obtain ⟨k1, k2⟩ := ih _ _ (.cons h2 (.nil ρ)) _ _ hs
      obtain ⟨_, _, e, k3, _⟩ := k2.uncons
      cases e
      exact ⟨k1, .iface k3⟩
    · cases h
  · rename_i n cs t
    cases h
    obtain ⟨l, f, h1, h2, h3, h4, h5, h6⟩ := hv.own_inv
    rw [h4]
    exact ⟨frKeys_nil, (VR.list (a' := ⟨l.block, 0, none⟩) h2 f (fun i hi => by rw [Nat.zero_add]; exact h5 i hi) h6).mono (frz_sub ρ H w [])⟩
  · rename_i g f c
    obtain ⟨f', c', rfl, _, h2, h3⟩ := hv.func_inv rfl
    split at h
    · rename_i a p b q hs1 hs2
      cases h
      obtain ⟨k1, k2⟩ := ih _ _ h2 _ _ hs1
      obtain ⟨k3, k4⟩ := ih _ _ h3 _ _ hs2
      refine ⟨fun x hx => ?_, .func_mk rfl (k2.mono (frz_mono fun x hx => by simp [hx])) (k4.mono (frz_mono fun x hx => by simp [hx]))⟩
      simp only [List.mem_append] at hx
      rcases hx with hx | hx
      · exact k1 x hx
      · exact k3 x hx
    · cases h
  · exact same _ _ hv h

theorem sealL_succ (P : Program) (H : AH) (d : Nat) (l : List Value) : sealL P H (d + 1) l = List.rec (some ([], [])) (fun v _ r => sealC (one2 (sealV1 P H (sealL P H d) v)) r) l := rfl

theorem seal_ok {ρ : Ren} {B : Nat} {H : AH} {w : World} (hR : Rel ρ B H w) : ∀ (d : Nat) (l l' : List Value), VRL ρ l l' → SealOK ρ H w (sealL P H d l) l' := by
  intro d
  induction d with
  | zero => intro l l' _ l2 fr h; cases h
  | succ d ih =>
    intro l
    induction l with
    | nil =>
      intro l' hl l2 fr h
      cases h
      rw [hl.unnil]
      exact ⟨frKeys_nil, .nil _⟩
    | cons v l ihl =>
      intro l' hl l2 fr h
      obtain ⟨v', r', rfl, h1, h2⟩ := hl.uncons
      have e : sealL P H (d + 1) (v :: l) = sealC (one2 (sealV1 P H (sealL P H d) v)) (sealL P H (d + 1) l) := rfl
      rw [e] at h
      cases hs : sealV1 P H (sealL P H d) v with
      | none => rw [hs] at h; simp [one2, sealC] at h
      | some p =>
        obtain ⟨u, f⟩ := p
        cases hr : sealL P H (d + 1) l with
        | none => rw [hs, hr] at h; simp [one2, sealC] at h
        | some q =>
          obtain ⟨l3, g⟩ := q
          rw [hs, hr] at h
          simp only [one2, sealC, Option.some.injEq, Prod.mk.injEq] at h
          obtain ⟨rfl, rfl⟩ := h
          obtain ⟨k1, k2⟩ := seal_v hR ih h1 hs
          obtain ⟨k3, k4⟩ := ihl r' h2 _ _ hr
          refine ⟨fun x hx => ?_, .cons (k2.mono (frz_mono fun x hx => by simp [hx])) (k4.mono (frz_mono fun x hx => by simp [hx]))⟩
          simp only [List.mem_append] at hx
          rcases hx with hx | hx
          · exact k1 x hx
          · exact k3 x hx

/- THE HEAP BEHIND IT -/

theorem raise_cons (H : AH) (p : Nat × Nat) (l : Frs) : raise H (p :: l) = frz1 (raise H l) p.1 p.2 (frzBlk p.2 ((raise H l).get p.1)) := rfl

/-- A block, frozen further. -/
def Froze (b b' : Option ABlk) : Prop := match b, b' with
  | some (.cells c), some (.cells c') => ∃ n, c.frz ≤ n ∧ c' = { c with frz := n }
  | x, y => x = y

theorem Froze.refl (b : Option ABlk) : Froze b b := by
  cases b with
  | none => rfl
  | some b => cases b <;> first | exact ⟨_, Nat.le_refl _, rfl⟩ | rfl

theorem Froze.trans {a b c : Option ABlk} (h : Froze a b) (h' : Froze b c) : Froze a c := by
  cases a with
  | none => cases b with
    | none => exact h'
    | some b => cases h
  | some a => cases b with
    | none => cases a <;> cases h
    | some b => cases c with
      | none => cases b <;> cases h'
      | some c =>
        cases a with
        | cells a => cases b with
          | cells b => cases c with
            | cells c =>
              obtain ⟨n, h1, rfl⟩ := h
              obtain ⟨m, h2, rfl⟩ := h'
              exact ⟨m, Nat.le_trans h1 h2, rfl⟩
            | _ => cases h'
          | _ => cases h
        | map a => cases b with
          | map b => cases h; exact h'
          | _ => cases h
        | tok x y z => cases b with
          | tok x' y' z' => cases h; exact h'
          | _ => cases h

theorem raise_spec {H : AH} (hlow : Low H) : ∀ (l : Frs), FrKeys l → (raise H l).n = H.n ∧ Low (raise H l) ∧ (∀ id, Froze (H.get id) ((raise H l).get id)) ∧ (∀ id, id ∉ frIds l → (raise H l).get id = H.get id) ∧
    (∀ p ∈ l, ∀ c, (raise H l).get p.1 = some (.cells c) → p.2 ≤ c.frz) := by
  intro l
  induction l with
  | nil => intro _; exact ⟨rfl, hlow, fun id => .refl _, fun _ _ => rfl, fun p hp => by simp at hp⟩
  | cons p l ih =>
    intro hk
    obtain ⟨h1, h2, h3, h4, h5⟩ := ih fun q hq => hk q (by simp [hq])
    have hkp := hk p (by simp)
    rw [raise_cons]
    cases hg : (raise H l).get p.1 with
    | none =>
      simp only [frzBlk, frz1]
      refine ⟨h1, h2, h3, fun id hid => h4 id fun h => hid (by simp [frIds] at h ⊢; exact .inr h), fun q hq c hc => ?_⟩
      simp only [List.mem_cons] at hq
      rcases hq with rfl | hq
      · rw [hg] at hc; cases hc
      · exact h5 q hq c hc
    | some b =>
      have hb : ∃ b', frzBlk p.2 (some b) = some b' ∧ Froze (some b) (some b') ∧ ∀ c, b' = .cells c → p.2 ≤ c.frz := by
        cases b with
        | cells b => exact ⟨_, rfl, ⟨_, Nat.le_max_left _ _, rfl⟩, fun c hc => by cases hc; exact Nat.le_max_right _ _⟩
        | map b => exact ⟨_, rfl, rfl, fun c hc => by cases hc⟩
        | tok x y z => exact ⟨_, rfl, rfl, fun c hc => by cases hc⟩
      obtain ⟨b', hb1, hb2, hb3⟩ := hb
      rw [hb1]
      simp only [frz1]
      have hgs := fun id => AH.get_set (H := raise H l) hkp b' id
      refine ⟨by rw [AH.set_eq]; exact h1, ?_, ?_, ?_, ?_⟩
      · intro id c hc
        rw [hgs] at hc
        rw [AH.set_eq]
        simp only
        split at hc
        · rename_i e; rw [e]; exact h2 _ _ hg
        · exact h2 _ _ hc
      · intro id
        rw [hgs]
        split
        · rename_i e
          rw [e]
          have := h3 p.1
          rw [hg] at this
          exact this.trans hb2
        · exact h3 id
      · intro id hid
        rw [hgs, if_neg (fun e => hid (by simp [frIds, e]))]
        exact h4 id fun h => hid (by simp [frIds] at h ⊢; exact .inr h)
      · intro q hq c hc
        rw [hgs] at hc
        simp only [List.mem_cons] at hq
        split at hc
        · rename_i e
          cases hc
          rcases hq with rfl | hq
          · exact hb3 c rfl
          · have h6 := h5 q hq
            rw [e, hg] at h6
            cases b with
            | cells b =>
              obtain ⟨n, hn, hc2⟩ := hb2
              rw [hc2]
              have := h6 b rfl
              simp only
              omega
            | map b => cases hb2
            | tok x y z => cases hb2
        · rename_i e
          rcases hq with rfl | hq
          · exact absurd rfl e
          · exact h5 q hq c hc

theorem raise_rel {ρ : Ren} {B : Nat} {H : AH} {w : World} (hR : Rel ρ B H w) {fr : Frs} (hk : FrKeys fr) : Post ρ B H w (ρ.frz H w fr) (raise H fr) w := by
  obtain ⟨h1, h2, h3, h4, h5⟩ := raise_spec hR.low fr hk
  have hs := frz_sub ρ H w fr
  have hcells : ∀ id c', (raise H fr).get id = some (.cells c') → ∃ c, H.get id = some (.cells c) ∧ c.frz ≤ c'.frz ∧ c' = { c with frz := c'.frz } := by
    intro id c' hc
    have := h3 id
    rw [hc] at this
    cases hq : H.get id with
    | none => rw [hq] at this; cases this
    | some b =>
      rw [hq] at this
      cases b with
      | cells c => obtain ⟨n, hn, rfl⟩ := this; exact ⟨c, rfl, hn, rfl⟩
      | map b => cases this
      | tok x y z => cases this
  have hother : ∀ id b, (raise H fr).get id = some b → (∀ c, b ≠ .cells c) → H.get id = some b := by
    intro id b hb hne
    have := h3 id
    rw [hb] at this
    cases hq : H.get id with
    | none => rw [hq] at this; cases this
    | some b0 =>
      rw [hq] at this
      cases b0 with
      | cells c => cases b with
        | cells c' => exact absurd rfl (hne c')
        | _ => cases this
      | map x => cases this; rfl
      | tok x y z => cases this; rfl
  have hsome : ∀ id, ((raise H fr).get id).isSome = (H.get id).isSome := by
    intro id
    have := h3 id
    cases hq : H.get id with
    | none => rw [hq] at this; cases hq2 : (raise H fr).get id with
      | none => rfl
      | some b => rw [hq2] at this; cases this
    | some b => rw [hq] at this; cases hq2 : (raise H fr).get id with
      | none => rw [hq2] at this; cases b <;> cases this
      | some b' => rfl
  refine ⟨⟨?_, ?_, h2, hR.sep, hR.bnd, hR.base, ⟨?_, ?_⟩⟩, ⟨hs, Nat.le_refl _, fun _ _ _ => rfl, ?_, ?_, by rw [h1]; exact Nat.le_refl _, ?_, ?_, ⟨rfl, rfl⟩, ?_⟩⟩
  · intro id ver l b hl hb
    cases b with
    | cells c' =>
      obtain ⟨c, g1, g2, g3⟩ := hcells id c' hb
      obtain ⟨q1, q2⟩ := hR.blk id ver l _ hl g1
      rw [g3]
      refine ⟨q1, fun hv => ?_⟩
      have hC := q2 hv
      obtain ⟨n, s1, s2, s3, s4⟩ := hC.shape
      refine ⟨⟨n, s1, s2, s3, fun i hi hn => s4 i (Nat.le_trans g2 hi) hn⟩, ?_, hC.esz, fun hm => Nat.le_trans (hC.hi hm) g2⟩
      intro i v hi hv2
      obtain ⟨v', k1, k2⟩ := hC.vals i v hi hv2
      exact ⟨v', k1, k2.mono hs⟩
    | map es => exact (hR.blk id ver l _ hl (hother id _ hb fun c h => by cases h)).keep hs rfl
    | tok x y z => exact (hR.blk id ver l _ hl (hother id _ hb fun c h => by cases h)).keep hs rfl
  · intro id c' hc
    obtain ⟨c, g1, g2, g3⟩ := hcells id c' hc
    have := hR.wf id c g1
    rw [g3]
    exact ⟨this.lens, this.wver, this.pf⟩
  · intro b i v hv
    rcases frz_cell hv with h | ⟨_, h⟩
    · exact hR.fz.cell _ _ _ h
    · exact h
  · intro id ver l i v b hl hv hb
    rcases frz_cell hv with h | ⟨⟨p, q1, ver0, l0, c, q2, q3, q4, q5⟩, _⟩
    · cases b with
      | cells c' =>
        obtain ⟨c, g1, g2, g3⟩ := hcells id c' hb
        have := hR.fz.sep id ver l i v _ hl h g1
        exact Nat.lt_of_lt_of_le this g2
      | map es => exact hR.fz.sep id ver l i v _ hl h (hother id _ hb fun c h => by cases h)
      | tok x y z => exact hR.fz.sep id ver l i v _ hl h (hother id _ hb fun c h => by cases h)
    · have hid := hR.sep _ _ _ _ _ _ q2 hl q3
      subst hid
      cases b with
      | cells c' => exact Nat.lt_of_lt_of_le q4 (h5 p q1 c' hb)
      | map es => have := hother _ _ hb (fun c h => by cases h); rw [q5] at this; cases this
      | tok x y z => have := hother _ _ hb (fun c h => by cases h); rw [q5] at this; cases this
  · intro id ver l h h'
    have h : ρ id ver = some l := h
    rw [h'] at h; cases h
  · intro id ver l h h'
    have h : ρ id ver = some l := h
    rw [h'] at h; cases h
  · intro id h; rw [hsome]; exact h
  · intro id h; rw [hsome] at h; exact .inl h
  · intro b i v hv
    rcases frz_cell hv with h | ⟨⟨p, q1, ver0, l0, c, q2, q3, q4, q5⟩, _⟩
    · exact .inl h
    · exact .inr (.inr ⟨p.1, ver0, l0, by rw [q5]; rfl, q2, q3⟩)

end
end Go.Den
