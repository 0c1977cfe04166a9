/-
  THE ENGINE, part K: slices cut, lengths, bytes and texts, maps read.
-/
import Derived.Test.YtjihbfdbgamcdaaGreatDoorE2J
namespace Go.Den
noncomputable section

variable {P : Program}

/- CUTS -/

/-- A bound that is given, or isn't. -/
def OptInt (v : Option Value) (d n : Nat) : Prop := (v = none ∧ n = d) ∨ ∃ k, v = some (.int k (n : Int))

theorem optNat_rel {ρ : Ren} {e : Env} {a : Act} (hE : ERel ρ e a) {x : Option Operand} (hx : ∀ y, x = some y → okOpd y = true) {d n : Nat} (h : optNat e d x = some n) : OptInt (x.map a.eval) d n := by
  cases x with
  | none => simp only [optNat, Option.some.injEq] at h; exact .inl ⟨rfl, h.symm⟩
  | some y =>
    simp only [optNat] at h
    obtain ⟨k, e1⟩ := asNat_some h
    have hv := evl_rel hE y (hx y rfl)
    rw [e1] at hv
    exact .inr ⟨k, by simp [hv.int_inv]⟩

theorem bound_run (k : IntKind) (n y : Nat) (code : BoundsCode) (h : n ≤ y) (w : World) : (Instr.sliceBound (.int k (n : Int)) y code).run P w = .ok n w := by
  simp [Instr.sliceBound, asIntOf, h]

theorem bounds_run {isSlice : Bool} {len cap l h : Nat} {lo hi : Option Value} (hlo : OptInt lo 0 l) (hhi : OptInt hi len h) (h1 : l ≤ h) (h2 : h ≤ cap) (w : World) :
    (Instr.sliceBounds isSlice len cap lo hi none).run P w = .ok (l, h, cap) w := by
  rcases hlo with ⟨rfl, rfl⟩ | ⟨k1, rfl⟩ <;> rcases hhi with ⟨rfl, rfl⟩ | ⟨k2, rfl⟩ <;> simp [Instr.sliceBounds, bound_run, h1, h2]

theorem bounds_run3 {isSlice : Bool} {len cap l h m : Nat} {lo hi : Option Value} {k : IntKind} {km : IntKind} (hlo : OptInt lo 0 l) (hhi : hi = some (.int k (h : Int))) (h1 : l ≤ h) (h2 : h ≤ m) (h3 : m ≤ cap) (w : World) :
    (Instr.sliceBounds isSlice len cap lo hi (some (.int km (m : Int)))).run P w = .ok (l, h, m) w := by
  subst hhi
  rcases hlo with ⟨rfl, rfl⟩ | ⟨k1, rfl⟩ <;> simp [Instr.sliceBounds, bound_run, h1, h2, h3]

theorem openOk_some {size : Nat} {a : Addr} {H : AH} {n : Nat} (h : openOk size a H n = true) : ∃ b, rdBlk H a n = some b ∧ b.esz = size ∧ b.lens ≠ [] ∧ a.off % size = 0 ∧ 0 < size := by
  unfold openOk at h
  split at h
  · rename_i b hb
    simp only [Bool.and_eq_true, Nat.beq_eq, Bool.not_eq_true', List.isEmpty_eq_false_iff, Nat.blt_eq] at h
    exact ⟨b, hb, h.1, h.2.1, h.2.2.1, h.2.2.2⟩
  · cases h

theorem div_bound {off size len cap k : Nat} (hs : 0 < size) (h0 : off % size = 0) (h : off + len * size ≤ cap * size) (hk : k ≤ len) : off / size + k ≤ cap := by
  have e1 : off = off / size * size := by
    have := Nat.div_add_mod off size
    rw [h0, Nat.add_zero, Nat.mul_comm] at this
    exact this.symm
  have h2 : (off / size + len) * size ≤ cap * size := by rw [Nat.add_mul, ← e1]; exact h
  have := Nat.le_of_mul_le_mul_right h2 hs
  omega

/-- The room of an open slice holds it. -/
theorem open_room {ρ : Ren} {B : Nat} {H : AH} {w : World} (hR : Rel ρ B H w) {size len : Nat} {a : Addr} {l : Loc} (h : openOk size a H (len * size) = true) (hl : ρ a.block (aver a) = some l) :
    l.esz = size ∧ 0 < size ∧ a.off / size + len ≤ l.cap ∧ a.off % size = 0 := by
  obtain ⟨b, h1, h2, h3, h4, h5⟩ := openOk_some h
  have hC := rd_rel hR h1 hl
  obtain ⟨n, g1, g2, g3, g4⟩ := hC.shape
  obtain ⟨g5, g6⟩ := g3 h3
  obtain ⟨_, _, _, g7⟩ := rdBlk_some h1
  refine ⟨hC.esz.trans h2, h5, ?_, h4⟩
  rw [h2] at g5
  exact div_bound h5 h4 (by omega) (Nat.le_refl _)

theorem slOpen_sound {ρ : Ren} {B : Nat} {H : AH} {w : World} (hR : Rel ρ B H w) {fresh : Nat} {t elem : TypeId} {ti : TypeInfo} (ht : tyU P t = some (.slice elem)) (hi : tyInfo P elem = some ti) {a : Addr} {len : Nat} {v' : Value} (hv : VR ρ (.slice (some a) len 0) v')
    {lo hi' : Option Value} {l h : Nat} (hlo : OptInt lo 0 l) (hhi : OptInt hi' len h) : ResOK P ρ B H w (vNext (Instr.sliceAt t v' lo hi' none)) fresh (slOpen H ti.size a len l h) := by
  unfold slOpen
  cases hq : (Nat.ble l h && (Nat.ble h len && openOk ti.size a H (len * ti.size))) with
  | false => rw [cond_false]; trivial
  | true =>
    rw [cond_true]
    simp only [Bool.and_eq_true, Nat.ble_eq] at hq
    obtain ⟨h1, h2, h3⟩ := hq
    cases hlh : Nat.beq l h with
    | true =>
      rw [cond_true]
      have hlh' : l = h := Nat.eq_of_beq_eq_true hlh
      subst hlh'
      obtain ⟨a', c', e⟩ := hv.slice_len
      subst e
      have hc : l ≤ c' := by
        by_cases hlen : 0 < len
        · obtain ⟨loc, g1, g2⟩ := hv.slice_inv (.inl hlen)
          injection g2 with _ _ g3
          obtain ⟨r1, r2, r3, r4⟩ := open_room hR h3 g1
          simp only [capOf, r1] at g3
          omega
        · omega
      refine .val (v' := .slice (some (if c' = l then a' else a'.add (l * ti.size))) 0 (c' - l)) ?_ .sliceEmpty
      rw [run_vNext]
      simp only [Instr.sliceAt, Sem.run_bind, run_under ht, Result.andThen_ok, Instr.slice, bounds_run hlo hhi (Nat.le_refl _) hc, run_size hi]
      split <;> simp_all
    | false =>
      rw [cond_false]
      have hlh' : l ≠ h := fun e => by rw [e, Nat.beq_refl] at hlh; cases hlh
      obtain ⟨loc, g1, g2⟩ := hv.slice_inv (.inl (by omega))
      obtain ⟨r1, r2, r3, r4⟩ := open_room hR h3 g1
      have hcap : capOf loc a 0 = loc.cap - a.off / ti.size := by simp [capOf, r1]
      have hdiv : (a.off + l * ti.size) / loc.esz = a.off / ti.size + l := by rw [r1, Nat.add_mul_div_right _ _ r2]
      refine .val (v' := .slice (some ⟨loc.block, a.off + l * ti.size, none⟩) (h - l) (loc.cap - a.off / ti.size - l)) ?_ ?_
      · rw [run_vNext, g2, hcap]
        have hne : ¬ (loc.cap - a.off / ti.size = l) := by omega
        simp only [Instr.sliceAt, Sem.run_bind, run_under ht, Result.andThen_ok, Instr.slice, bounds_run hlo hhi h1 (show h ≤ loc.cap - a.off / ti.size by omega), run_size hi]
        simp [hne, addr_add]
      · have := VR.sliceOpen (ρ := ρ) (a := ⟨a.block, a.off + l * ti.size, a.spot⟩) (l := loc) (len := h - l) (by omega) g1
        simp only [hdiv] at this
        rw [Nat.sub_sub]
        exact this

theorem slExact_run {ρ : Ren} {B : Nat} {H : AH} {w : World} {fresh : Nat} {size c l h : Nat} {a : Addr} {loc : Loc} {s : Sem Next} (hl : ρ a.block (aver a) = some loc)
    (hs : l ≤ h → h ≤ c → s.run P w = .ok (.value (.slice (some (if c = l then ⟨loc.block, a.off, none⟩ else ⟨loc.block, a.off + l * size, none⟩)) (h - l) (c - l))) w) : ResOK P ρ B H w s fresh (slExact size a c l h) := by
  unfold slExact
  cases hq : (Nat.ble l h && Nat.ble h c) with
  | false => rw [cond_false]; trivial
  | true =>
    rw [cond_true]
    simp only [Bool.and_eq_true, Nat.ble_eq] at hq
    refine .val (hs hq.1 hq.2) ?_
    cases hlc : Nat.beq l c with
    | true =>
      have : c = l := (Nat.eq_of_beq_eq_true hlc).symm
      rw [if_pos this]
      exact VR.sliceExact (a := ⟨a.block, a.off, a.spot⟩) hl
    | false =>
      have : ¬ c = l := fun e => by rw [e, Nat.beq_refl] at hlc; cases hlc
      rw [if_neg this]
      exact VR.sliceExact (a := ⟨a.block, a.off + l * size, a.spot⟩) hl

theorem slice01 {ρ : Ren} {a : Addr} {v : Value} (h : VR ρ (.slice (some a) 0 1) v) : ∃ a', v = .slice (some a') 0 0 := by
  cases h with
  | flat h => simp [Go.Den.flat] at h
  | sliceExact h => exact ⟨_, rfl⟩
  | sliceNo => exact ⟨_, rfl⟩

theorem slZero_sound {ρ : Ren} {B : Nat} {H : AH} {w : World} {fresh : Nat} {l h : Nat} {s : Sem Next} (hs : l = 0 → h = 0 → ∃ a', s.run P w = .ok (.value (.slice (some a') 0 0)) w) : ResOK P ρ B H w s fresh (slZero l h) := by
  unfold slZero
  cases hq : (Nat.beq l 0 && Nat.beq h 0) with
  | false => rw [cond_false]; trivial
  | true =>
    rw [cond_true]
    simp only [Bool.and_eq_true, Nat.beq_eq] at hq
    obtain ⟨a', h1⟩ := hs hq.1 hq.2
    exact .val h1 .sliceNo

theorem slMax_sound {ρ : Ren} {B : Nat} {H : AH} {w : World} (hR : Rel ρ B H w) {fresh : Nat} {t elem : TypeId} {ti : TypeInfo} (ht : tyU P t = some (.slice elem)) (hti : tyInfo P elem = some ti) {p : Addr} {len c l h m : Nat} {v' : Value} (hv : VR ρ (.slice (some p) len c) v')
    {lo hi' : Option Value} {k km : IntKind} (b1 : OptInt lo 0 l) (b3 : hi' = some (.int k (h : Int))) : ResOK P ρ B H w (vNext (Instr.sliceAt t v' lo hi' (some (.int km (m : Int))))) fresh (slMax H ti.size p len c l h m) := by
  unfold slMax
  cases hq : (Nat.ble l h && (Nat.ble h m && (Nat.ble m len && maxOk H ti.size p len c))) with
  | false => rw [cond_false]; trivial
  | true =>
    rw [cond_true]
    simp only [Bool.and_eq_true, Nat.ble_eq] at hq
    obtain ⟨h1, h2, h3, h4⟩ := hq
    have hcap : (0 < len ∨ 1 < c) ∧ ∀ loc, ρ p.block (aver p) = some loc → len ≤ capOf loc p c := by
      cases c with
      | zero =>
        simp only [maxOk, Bool.and_eq_true, Nat.blt_eq] at h4
        refine ⟨.inl h4.1, fun loc hl => ?_⟩
        obtain ⟨r1, r2, r3, r4⟩ := open_room hR h4.2 hl
        simp only [capOf, r1]
        omega
      | succ c =>
        simp only [maxOk, Bool.and_eq_true, Nat.blt_eq, Nat.ble_eq] at h4
        exact ⟨.inr (by omega), fun loc hl => by simpa [capOf] using h4.1⟩
    obtain ⟨loc, g1, g2⟩ := hv.slice_inv hcap.1
    have hle := hcap.2 loc g1
    refine .val (v' := .slice (some (if m = l then ⟨loc.block, p.off, none⟩ else ⟨loc.block, p.off + l * ti.size, none⟩)) (h - l) (m - l)) ?_ ?_
    · rw [run_vNext, g2]
      simp only [Instr.sliceAt, Sem.run_bind, run_under ht, Result.andThen_ok, Instr.slice]
      rw [bounds_run3 b1 b3 h1 h2 (by omega)]
      simp only [Result.andThen_ok, run_size hti]
      split <;> simp_all [addr_add]
    · cases hlc : Nat.beq l m with
      | true =>
        have : m = l := (Nat.eq_of_beq_eq_true hlc).symm
        rw [if_pos this]
        exact VR.sliceExact (a := ⟨p.block, p.off, p.spot⟩) g1
      | false =>
        have : ¬ m = l := fun e => by rw [e, Nat.beq_refl] at hlc; cases hlc
        rw [if_neg this]
        exact VR.sliceExact (a := ⟨p.block, p.off + l * ti.size, p.spot⟩) g1

theorem slFz_sound {ρ : Ren} {B : Nat} {H : AH} {w : World} {fresh : Nat} {t elem : TypeId} {ti : TypeInfo} (ht : tyU P t = some (.slice elem)) (hti : tyInfo P elem = some ti) {p : Nat × List Value} {l h : Nat} {v0 v' : Value} (hv : VR ρ v0 v') (hp0 : asFL v0 = some p)
    (hcap : ∀ a' n' c', v' = .slice a' n' c' → n' ≤ c') {lo hi' : Option Value} (b1 : OptInt lo 0 l) (b2 : OptInt hi' p.1 h) : ResOK P ρ B H w (vNext (Instr.sliceAt t v' lo hi' none)) fresh (slFz ti.size p l h) := by
  unfold slFz
  cases hq : (Nat.ble l h && (Nat.ble h p.1 && Nat.beq (p.1 * ti.size) p.2.length)) with
  | false => rw [cond_false]; trivial
  | true =>
    rw [cond_true]
    simp only [Bool.and_eq_true, Nat.ble_eq, Nat.beq_eq] at hq
    obtain ⟨h1, h2, h3⟩ := hq
    obtain ⟨a0, c0, hv0⟩ := hv.row_len hp0
    have hcc := hcap _ _ _ hv0
    cases hlh : Nat.beq l h with
    | true =>
      rw [cond_true]
      have hlh' : l = h := Nat.eq_of_beq_eq_true hlh
      subst hlh'
      refine .val (v' := .slice (a0.map fun a => if c0 = l then a else a.add (l * ti.size)) 0 (c0 - l)) ?_ .listNo
      rw [run_vNext, hv0]
      simp only [Instr.sliceAt, Sem.run_bind, run_under ht, Result.andThen_ok, Instr.slice, bounds_run b1 b2 (Nat.le_refl _) (show l ≤ c0 by omega), run_size hti]
      cases a0 <;> (split <;> simp_all)
    | false =>
      rw [cond_false]
      have hlh' : l ≠ h := fun e => by rw [e, Nat.beq_refl] at hlh; cases hlh
      rcases hv.row_inv hp0 with ⟨_, _, h0, _⟩ | ⟨b, o, c', f, g1, g0, g2, g3⟩
      · omega
      · have hcc' := hcap _ _ _ g1
        refine .val (v' := .slice (some ⟨b, o + l * ti.size, none⟩) (h - l) (c' - l)) ?_ (VR.list (by omega) (a' := ⟨b, o + l * ti.size, none⟩) (fun i => f (l * ti.size + i)) ?_ ?_)
        · rw [run_vNext, g1]
          have hne : ¬ (c' = l) := by omega
          simp only [Instr.sliceAt, Sem.run_bind, run_under ht, Result.andThen_ok, Instr.slice, bounds_run b1 b2 h1 (show h ≤ c' by omega), run_size hti]
          simp [hne, addr_add]
        · intro i hi
          have := g2 (l * ti.size + i) (by
            simp only [slotsOf, List.length_take, List.length_drop] at hi
            omega)
          simpa [Nat.add_assoc] using this
        · intro i v e
          simp only [slotsOf, List.getElem?_take, List.getElem?_drop] at e
          split at e
          · exact g3 _ _ e
          · cases e

theorem slFm_sound {ρ : Ren} {B : Nat} {H : AH} {w : World} {fresh : Nat} {t elem : TypeId} {ti : TypeInfo} (ht : tyU P t = some (.slice elem)) (hti : tyInfo P elem = some ti) {p : Nat × List Value} {l h m : Nat} {v0 v' : Value} (hv : VR ρ v0 v') (hp0 : asFL v0 = some p)
    (hcap : ∀ a' n' c', v' = .slice a' n' c' → n' ≤ c') {lo hi' : Option Value} {k km : IntKind} (b1 : OptInt lo 0 l) (b3 : hi' = some (.int k (h : Int))) : ResOK P ρ B H w (vNext (Instr.sliceAt t v' lo hi' (some (.int km (m : Int))))) fresh (slFm p l h (some m)) := by
  simp only [slFm]
  cases hq : (Nat.beq l h && (Nat.beq h m && Nat.ble m p.1)) with
  | false => rw [cond_false]; trivial
  | true =>
    rw [cond_true]
    cases hp : Nat.blt 0 p.1 with
    | false => rw [cond_false]; trivial
    | true =>
      rw [cond_true]
      simp only [Bool.and_eq_true, Nat.ble_eq, Nat.beq_eq] at hq
      have hp' : 0 < p.1 := Nat.le_of_ble_eq_true hp
      obtain ⟨rfl, rfl, h3⟩ := hq
      rcases hv.row_inv hp0 with ⟨_, _, h0, _⟩ | ⟨b, o, c', f, g1, g0, g2, g3⟩
      · omega
      · have hcc' := hcap _ _ _ g1
        refine .val (v' := .slice (some ⟨b, o, none⟩) 0 0) ?_ .sliceNo
        rw [run_vNext, g1]
        simp only [Instr.sliceAt, Sem.run_bind, run_under ht, Result.andThen_ok, Instr.slice]
        rw [bounds_run3 b1 b3 (Nat.le_refl _) (Nat.le_refl _) (by omega)]
        simp [run_size hti]

theorem slS_sound {ρ : Ren} {B : Nat} {H : AH} {w : World} (hR : Rel ρ B H w) {e : Env} {a : Act} {fresh : Nat} {o : Oper} {t elem : TypeId} {x : Operand} {lo hi mx : Option Operand} (ho : o.op = .slice t x lo hi mx) (hk : opKind o.op = true) (hE : ERel ρ e a)
    (hops : ∀ x ∈ o.op.operands.toList, okOpd x = true) {ti : TypeInfo} (ht : tyU P t = some (.slice elem)) (hti : tyInfo P elem = some ti) : ResOK P ρ B H w (execOp a.eval o) fresh (slSA P e H ti.size (evl e x) lo hi mx o) := by
  have hx : okOpd x = true := hops x (by rw [ho]; simp [Op.operands])
  have hlo : ∀ y, lo = some y → okOpd y = true := fun y hy => hops y (by rw [ho, hy]; simp [Op.operands])
  have hhi : ∀ y, hi = some y → okOpd y = true := fun y hy => hops y (by rw [ho, hy]; simp [Op.operands])
  have hmx : ∀ y, mx = some y → okOpd y = true := fun y hy => hops y (by rw [ho, hy]; simp [Op.operands])
  have hv := evl_rel hE x hx
  have hex : execOp a.eval o = vNext (Instr.sliceAt t (a.eval x) (lo.map a.eval) (hi.map a.eval) (mx.map a.eval)) := by simp only [execOp, ho, vNext]
  unfold slSA
  split
  · rename_i p len c h0
    rw [h0] at hv
    split
    · rename_i l h e1 e2
      have b1 := optNat_rel hE hlo e1
      have b2 := optNat_rel hE hhi e2
      rw [hex]
      split
      · unfold slAny
        split
        · exact slOpen_sound hR ht hti hv b1 b2
        · refine slZero_sound fun h1 h2 => ?_
          subst h1; subst h2
          by_cases hlen : 0 < len
          · obtain ⟨loc, g1, g2⟩ := hv.slice_inv (.inl hlen)
            refine ⟨⟨loc.block, p.off, none⟩, ?_⟩
            rw [run_vNext, g2]
            simp only [capOf, Option.map_none, Instr.sliceAt, Sem.run_bind, run_under ht, Result.andThen_ok, Instr.slice, bounds_run b1 b2 (Nat.le_refl _) (Nat.le_refl _), run_size hti]
            simp
          · have hl0 : len = 0 := by omega
            subst hl0
            obtain ⟨a', g⟩ := slice01 hv
            refine ⟨a', ?_⟩
            rw [run_vNext, g]
            simp only [Option.map_none, Instr.sliceAt, Sem.run_bind, run_under ht, Result.andThen_ok, Instr.slice, bounds_run b1 b2 (Nat.le_refl _) (Nat.le_refl _), run_size hti]
            simp
        · rename_i c'
          obtain ⟨loc, g1, g2⟩ := hv.slice_inv (.inr (by omega))
          refine slExact_run g1 fun h1 h2 => ?_
          rw [run_vNext, g2]
          simp only [capOf, Option.map_none, Instr.sliceAt, Sem.run_bind, run_under ht, Result.andThen_ok, Instr.slice, bounds_run b1 b2 h1 h2, run_size hti]
          split <;> simp_all [addr_add]
      · rename_i y
        split
        · rename_i m z e3
          obtain ⟨km, e4⟩ := asNat_some e3
          have hvm := evl_rel hE y (hmx y rfl)
          rw [e4] at hvm
          have b3 : ∃ k, Option.map a.eval (some z) = some (.int k (h : Int)) := by
            rcases b2 with ⟨q, _⟩ | ⟨k, q⟩
            · cases q
            · exact ⟨k, q⟩
          obtain ⟨k, b3⟩ := b3
          rw [show Option.map a.eval (some y) = some (.int km (m : Int)) by rw [Option.map_some, hvm.int_inv]]
          unfold slAnyM
          split
          · cases hq : (Nat.beq m 0 && Nat.beq len 0) with
            | false => rw [cond_false]; trivial
            | true =>
              rw [cond_true]
              simp only [Bool.and_eq_true, Nat.beq_eq] at hq
              obtain ⟨rfl, rfl⟩ := hq
              refine slZero_sound fun h1 h2 => ?_
              subst h1; subst h2
              obtain ⟨a', g⟩ := slice01 hv
              refine ⟨a', ?_⟩
              rw [run_vNext, g]
              simp only [Instr.sliceAt, Sem.run_bind, run_under ht, Result.andThen_ok, Instr.slice]
              rw [bounds_run3 b1 b3 (Nat.le_refl _) (Nat.le_refl _) (Nat.le_refl _)]
              simp [run_size hti]
          · exact slMax_sound hR ht hti hv b1 b3
        · trivial
    · trivial
  · unfold slF
    split
    · rename_i p hp0
      split
      · rename_i l h e1 e2
        have b1 := optNat_rel hE hlo e1
        have b2 := optNat_rel hE hhi e2
        rw [hex]
        have hcap : ∀ a' n' c', a.eval x = .slice a' n' c' → n' ≤ c' := by
          intro a' n' c' he
          rcases hv.row_inv hp0 with ⟨_, _, h0, _, g1⟩ | ⟨b, o, c2, f, g1, g0, _⟩
          · rw [g1] at he; cases he; exact Nat.zero_le _
          · rw [g1] at he; cases he; exact g0
        unfold slF2
        split
        · exact slFz_sound ht hti hv hp0 hcap b1 b2
        · rename_i y
          split
          · rename_i z
            cases e3 : asNat (evl e y) with
            | none => trivial
            | some m =>
              obtain ⟨km, e4⟩ := asNat_some e3
              have hvm := evl_rel hE y (hmx y rfl)
              rw [e4] at hvm
              have b3 : ∃ k, Option.map a.eval (some z) = some (.int k (h : Int)) := by
                rcases b2 with ⟨q, _⟩ | ⟨k, q⟩
                · cases q
                · exact ⟨k, q⟩
              obtain ⟨k, b3⟩ := b3
              rw [show Option.map a.eval (some y) = some (.int km (m : Int)) by rw [Option.map_some, hvm.int_inv]]
              exact slFm_sound ht hti hv hp0 hcap b1 b3
          · trivial
      · trivial
    · exact gen_sound hk hE hops

theorem slA_sound {ρ : Ren} {B : Nat} {H : AH} {w : World} {e : Env} {a : Act} {fresh : Nat} {t elem : TypeId} {n : Nat} {x : Operand} {lo hi : Option Operand} (hE : ERel ρ e a) (hx : okOpd x = true)
    (hlo : ∀ y, lo = some y → okOpd y = true) (hhi : ∀ y, hi = some y → okOpd y = true) {ti : TypeInfo} (ht : tyU P t = some (.array n elem)) (hti : tyInfo P elem = some ti) :
    ResOK P ρ B H w (vNext (Instr.sliceAt t (a.eval x) (lo.map a.eval) (hi.map a.eval) none)) fresh (slAA e n ti.size (evl e x) lo hi) := by
  have hv := evl_rel hE x hx
  unfold slAA
  split
  · rename_i p h0
    rw [h0] at hv
    split
    · rename_i l h e1 e2
      have b1 := optNat_rel hE hlo e1
      have b2 := optNat_rel hE hhi e2
      obtain ⟨loc, g1, g2⟩ := hv.ptr_inv
      refine slExact_run g1 fun h1 h2 => ?_
      rw [run_vNext, g2]
      simp only [Instr.sliceAt, Sem.run_bind, run_under ht, Result.andThen_ok, Instr.sureAddr, Sem.run_pure, bounds_run b1 b2 h1 h2, run_size hti]
      split <;> simp_all [addr_add]
    · trivial
  · trivial

/- LENGTHS -/

theorem call1_ex {a : Act} {o : Oper} {c : Call} {x : Operand} {b : Builtin} (ho : o.op = .call c) (hcal : c.callee = .builtin b) (hargs : c.args.toList = [x]) {f : Array TypeId → TypeId → Array Value → Sem Value}
    (hb : ∀ at_ t cs vs, builtin b at_ t cs vs = vNext (f at_ t vs)) : execOp a.eval o = vNext (f c.argTypes o.type #[a.eval x]) := by
  obtain ⟨callee, args, at_⟩ := c
  simp only at hcal hargs
  subst hcal
  have hargs' : args = #[x] := by apply Array.ext'; simpa using hargs
  subst hargs'
  simp only [execOp, ho, resolve]
  simp [invoke, hb]

theorem len_sound {ρ : Ren} {B : Nat} {H : AH} {w : World} {e : Env} {a : Act} {fresh : Nat} {o : Oper} {c : Call} {x : Operand} (ho : o.op = .call c) (hcal : c.callee = .builtin .len) (hargs : c.args.toList = [x]) {el : TypeId} (hd : (c.argTypes[0]?).bind (tyU P) = some (.slice el))
    (hE : ERel ρ e a) (hk : opKind o.op = true) (hops : ∀ x ∈ o.op.operands.toList, okOpd x = true) :
    ResOK P ρ B H w (execOp a.eval o) fresh (lenIA P e (evl e x) o) := by
  have hx : okOpd x = true := hops x (by rw [ho]; simp only [Op.operands, Call.operands, Array.toList_append, hargs]; simp)
  have hv := evl_rel hE x hx
  obtain ⟨t, ht1, ht2⟩ := Option.bind_eq_some_iff.1 hd
  unfold lenIA
  split
  · rename_i p n cc h0
    rw [h0] at hv
    obtain ⟨a', c', g⟩ := hv.slice_len
    rw [call1_ex ho hcal hargs (f := Builtin.len_) (fun _ _ _ _ => rfl)]
    refine .val (v' := .int .i64 n) ?_ (.flat rfl)
    rw [run_vNext, g]
    have : c.argTypes[0]? = some t := ht1
    simp [Builtin.len_, this, run_under ht2, goInt]
  · unfold lenF
    split
    · rename_i q hp0
      obtain ⟨a', c', g⟩ := hv.row_len hp0
      rw [call1_ex ho hcal hargs (f := Builtin.len_) (fun _ _ _ _ => rfl)]
      refine .val (v' := .int .i64 q.1) ?_ (.flat rfl)
      rw [run_vNext, g]
      have : c.argTypes[0]? = some t := ht1
      simp [Builtin.len_, this, run_under ht2, goInt]
    · exact gen_sound hk hE hops

theorem lenM_sound {ρ : Ren} {B : Nat} {H : AH} {w : World} (hR : Rel ρ B H w) {e : Env} {a : Act} {fresh : Nat} {o : Oper} {c : Call} {x : Operand} (ho : o.op = .call c) (hcal : c.callee = .builtin .len) (hargs : c.args.toList = [x]) {kt el : TypeId} (hd : (c.argTypes[0]?).bind (tyU P) = some (.map kt el))
    (hE : ERel ρ e a) (hk : opKind o.op = true) (hops : ∀ x ∈ o.op.operands.toList, okOpd x = true) :
    ResOK P ρ B H w (execOp a.eval o) fresh (lenMA P e H (evl e x) o) := by
  have hx : okOpd x = true := hops x (by rw [ho]; simp only [Op.operands, Call.operands, Array.toList_append, hargs]; simp)
  have hv := evl_rel hE x hx
  obtain ⟨t, ht1, ht2⟩ := Option.bind_eq_some_iff.1 hd
  unfold lenMA
  split
  · rename_i r h0
    rw [h0] at hv
    obtain ⟨l, g1, g2⟩ := hv.map_inv
    split
    · rename_i es h1
      obtain ⟨_, ms, clock, q1, q2, _⟩ := hR.blk _ _ _ _ g1 h1
      rw [call1_ex ho hcal hargs (f := Builtin.len_) (fun _ _ _ _ => rfl)]
      refine .val (v' := .int .i64 es.length) ?_ (.flat rfl)
      rw [run_vNext, g2]
      have h3 : c.argTypes[0]? = some t := ht1
      have h4 : (getObj l.block).run P w = .ok (.map ms clock) w := by simp [getObj, Sem.run, q1]
      simp [Builtin.len_, h3, run_under ht2, goInt, h4, q2]
    · trivial
  · exact gen_sound hk hE hops

theorem cap_sound {ρ : Ren} {B : Nat} {H : AH} {w : World} {e : Env} {a : Act} {fresh : Nat} {o : Oper} {c : Call} {x : Operand} (ho : o.op = .call c) (hcal : c.callee = .builtin .cap) (hargs : c.args.toList = [x]) {el : TypeId} (hd : isSliceT P c.argTypes[0]? = some el)
    (hE : ERel ρ e a) (hops : ∀ x ∈ o.op.operands.toList, okOpd x = true) : ResOK P ρ B H w (execOp a.eval o) fresh (capIA (evl e x)) := by
  have hx : okOpd x = true := hops x (by rw [ho]; simp only [Op.operands, Call.operands, Array.toList_append, hargs]; simp)
  have hv := evl_rel hE x hx
  have ht : ∃ t, c.argTypes[0]? = some t ∧ tyU P t = some (.slice el) := by
    unfold isSliceT at hd
    split at hd
    · rename_i t h1
      split at hd
      · rename_i h2; cases hd; exact ⟨t, h1, h2⟩
      · cases hd
    · cases hd
  obtain ⟨t, ht1, ht2⟩ := ht
  rw [call1_ex ho hcal hargs (f := Builtin.cap_) (fun _ _ _ _ => rfl)]
  unfold capIA
  split
  · rename_i p n cc h0
    rw [h0] at hv
    have hq : ∃ a', a.eval x = .slice (some a') n cc := by
      by_cases h1 : 0 < n ∨ 1 < cc + 1
      · obtain ⟨l, g1, g2⟩ := hv.slice_inv h1
        exact ⟨_, g2⟩
      · have hn : n = 0 := by omega
        have hc : cc = 0 := by omega
        subst hn; subst hc
        exact slice01 hv
    obtain ⟨a', g2⟩ := hq
    refine .val (v' := .int .i64 cc) ?_ (.flat rfl)
    rw [run_vNext, g2]
    simp [Builtin.cap_, ht1, run_under ht2, goInt]
  · rename_i h0
    rw [h0] at hv
    refine .val (v' := .int .i64 0) ?_ (.flat rfl)
    rw [run_vNext, hv.of_flat rfl]
    simp [Builtin.cap_, ht1, run_under ht2, goInt]
  · trivial

theorem usd_some (at_ : Array TypeId) (t : TypeId) (p : Addr) (n c : Nat) : Builtin.unsafeSliceData_ at_ t #[.slice (some p) n (c + 1)] = pure (.pointer (some p)) := rfl
theorem usd_none (at_ : Array TypeId) (t : TypeId) (n c : Nat) : Builtin.unsafeSliceData_ at_ t #[.slice none n c] = pure (.pointer none) := rfl

theorem usd_sound {ρ : Ren} {B : Nat} {H : AH} {w : World} (hR : Rel ρ B H w) {e : Env} {a : Act} {fresh : Nat} {o : Oper} {c : Call} {x : Operand} (ho : o.op = .call c) (hcal : c.callee = .builtin .unsafeSliceData) (hargs : c.args.toList = [x])
    (hE : ERel ρ e a) (hops : ∀ x ∈ o.op.operands.toList, okOpd x = true) : ResOK P ρ B H w (execOp a.eval o) fresh (usdA H (evl e x)) := by
  have hx : okOpd x = true := hops x (by rw [ho]; simp only [Op.operands, Call.operands, Array.toList_append, hargs]; simp)
  have hv := evl_rel hE x hx
  rw [call1_ex ho hcal hargs (f := Builtin.unsafeSliceData_) (fun _ _ _ _ => rfl)]
  unfold usdA
  split
  · rename_i p len h0
    rw [h0] at hv
    obtain ⟨l, g1, g2⟩ := hv.slice_inv (.inl (by omega))
    cases hq : openOk 1 p H (len + 1) with
    | false => rw [cond_false]; trivial
    | true =>
      rw [cond_true]
      obtain ⟨r1, r2, r3, r4⟩ := open_room hR (size := 1) (len := len + 1) (by simpa using hq) g1
      refine .val (v' := .pointer (some ⟨l.block, p.off, none⟩)) ?_ (VR.ptr g1)
      have hc : capOf l p 0 = (capOf l p 0 - 1) + 1 := by simp only [capOf, r1]; omega
      rw [run_vNext, g2, hc, usd_some]
      rfl
  · rename_i p len cc h0
    rw [h0] at hv
    obtain ⟨l, g1, g2⟩ := hv.slice_inv (.inr (by omega))
    refine .val (v' := .pointer (some ⟨l.block, p.off, none⟩)) ?_ (VR.ptr g1)
    rw [run_vNext, g2]
    simp only [capOf]
    rw [usd_some]
    rfl
  · rename_i h0
    rw [h0] at hv
    refine .val (v' := .pointer none) ?_ (.flat rfl)
    rw [run_vNext, hv.of_flat rfl, usd_none]
    rfl
  · cases hq : asFO (evl e x) with
    | none => trivial
    | some p =>
      have h0 := asFO_some hq
      rw [h0] at hv
      obtain ⟨l, f, g1, g2, g3, g4, g5, g6⟩ := hv.own_inv
      show ResOK P ρ B H w _ fresh (bif Nat.blt 0 p.2.1 then val (OP p.1 p.2.1 p.2.2) else .none)
      cases hz : Nat.blt 0 p.2.1 with
      | false => trivial
      | true =>
        rw [Nat.blt_eq] at hz
        refine .val (v' := .pointer (some ⟨l.block, 0, none⟩)) ?_ (VR.optr g1 g3 f g5 g6)
        obtain ⟨c, hc⟩ : ∃ c, l.cap = c + 1 := ⟨l.cap - 1, by omega⟩
        rw [run_vNext, g4, hc, usd_some]
        rfl

/- BYTES AND TEXTS -/

theorem isU8_some {v : Value} (h : isU8 v = true) : ∃ n : Nat, n < 256 ∧ v = .int .u8 (n : Int) ∧ toU8 v = UInt8.ofNat n := by
  unfold isU8 at h
  split at h
  · rename_i n; exact ⟨n, Nat.le_of_ble_eq_true h, rfl, rfl⟩
  · cases h

theorem flat_u8 {v : Value} (h : isU8 v = true) : flat v = true := by
  obtain ⟨n, _, rfl, _⟩ := isU8_some h
  rfl

def u8int : Value → Int
  | .int _ n => n
  | _ => 0

theorem u8s_ints {l : List Value} (h : ∀ v ∈ l, isU8 v = true) : l = (l.map u8int).map (Value.int .u8) ∧ ∀ s : ByteArray, (l.map u8int).foldl (fun r n => r.push (UInt8.ofNat n.toNat)) s = ⟨s.data ++ (l.map toU8).toArray⟩ := by
  induction l with
  | nil => exact ⟨rfl, fun s => by simp⟩
  | cons v l ih =>
    obtain ⟨n, h1, rfl, h2⟩ := isU8_some (h v (by simp))
    obtain ⟨h3, h4⟩ := ih fun u hu => h u (by simp [hu])
    refine ⟨?_, fun s => ?_⟩
    · simp only [List.map_cons]
      rw [← h3]
      rfl
    · simp only [List.map_cons, List.foldl_cons]
      rw [h4, h2]
      show (⟨(s.data.push (UInt8.ofNat n)) ++ _⟩ : ByteArray) = _
      simp

theorem elems_slice {ρ : Ren} {B : Nat} {H : AH} {w : World} (hR : Rel ρ B H w) {size n len c : Nat} {a : Addr} {v' : Value} {l : List Value} (hv : VR ρ (.slice (some a) len c) v') (h : elemsA H size n (.slice (some a) len c) = some l) :
    ∃ (loc : Loc) (c' : Nat), v' = .slice (some ⟨loc.block, a.off, none⟩) len c' ∧ n ≤ len ∧ l.length = n * size ∧ (∀ w2 : World, w2.heap = w.heap → ∃ cs : Array Value, (loadCells ⟨loc.block, a.off, none⟩ (n * size)).run P w2 = .ok cs w2 ∧ VRL ρ l cs.toList) := by
  unfold elemsA at h
  dsimp only at h
  cases hq : (Nat.ble n len && Nat.blt 0 n) with
  | false => rw [hq, cond_false] at h; cases h
  | true =>
    rw [hq, cond_true] at h
    simp only [Bool.and_eq_true, Nat.ble_eq, Nat.blt_eq] at hq
    split at h
    · rename_i b hb
      cases h
      obtain ⟨loc, g1, g2⟩ := hv.slice_inv (.inl (by omega))
      have hlen := rd_len hR hb
      refine ⟨loc, _, g2, hq.1, by simp [slotsOf]; omega, fun w2 h2 => ?_⟩
      have hR2 : Rel ρ B H w2 := ⟨fun id ver l b h1 h3 => (hR.blk id ver l b h1 h3).keep (.refl ρ) (by rw [h2]), hR.wf, hR.low, hR.sep, fun id ver l h1 => (by rw [h2]; exact hR.bnd id ver l h1), by rw [h2]; exact hR.base, ⟨fun b i v h1 => (by have := hR.fz.cell b i v h1; unfold World.cell? at this ⊢; rw [h2]; exact this), hR.fz.sep⟩⟩
      exact run_load_row hR2 hb g1
    · cases h

theorem b2s_sound {ρ : Ren} {B : Nat} {H : AH} {w : World} (hR : Rel ρ B H w) {e : Env} {a : Act} {fresh : Nat} {o : Oper} {src dst el : TypeId} {x : Operand} (ho : o.op = .convert src dst x) (hs : tyU P src = some (.slice el)) (hd : tyU P dst = some .string) (hel : tyU P el = some (.int .u8))
    (hE : ERel ρ e a) (hk : opKind o.op = true) (hops : ∀ x ∈ o.op.operands.toList, okOpd x = true) : ResOK P ρ B H w (execOp a.eval o) fresh (b2sA P e H (evl e x) o) := by
  have hx : okOpd x = true := hops x (by rw [ho]; simp [Op.operands])
  have hv := evl_rel hE x hx
  have hex : execOp a.eval o = vNext (convert src dst (a.eval x)) := by simp only [execOp, ho, vNext]
  have hconv : ∀ (p : Addr) (n c : Nat) (r : Value), (Conv.bytesToString (.slice (some p) n c)).run P w = .ok r w → (vNext (convert src dst (.slice (some p) n c))).run P w = .ok (.value r) w := by
    intro p n c r h
    rw [run_vNext]
    simp only [convert, Sem.run_bind, run_under hs, run_under hd, Result.andThen_ok, run_under hel, h]
  unfold b2sA
  split
  · rename_i p c h0
    rw [h0] at hv
    obtain ⟨a', c', g⟩ := hv.slice_len
    rw [hex]
    refine .val (v' := .string ⟨#[]⟩) ?_ (.flat rfl)
    rw [g]
    refine hconv _ _ _ _ ?_
    have hl : (loadCells a' 0).run P w = .ok #[] w := by simpa using run_loadCells (P := P) w a' 0 (fun _ => undef) (by intro j hj; omega)
    exact run_bytesToString w a' 0 c' [] (by simpa using hl)
  · rename_i p len c _ h0
    rw [h0] at hv
    split
    · rename_i l hl
      obtain ⟨loc, c', g1, g2, g3, g4⟩ := elems_slice (P := P) hR hv hl
      cases hq : l.all isU8 with
      | false => rw [cond_false]; trivial
      | true =>
        rw [cond_true]
        have hq' := list_all hq
        obtain ⟨cs, g5, g6⟩ := g4 w rfl
        have hcs : cs.toList = l := g6.of_flat fun v hv => flat_u8 (hq' v hv)
        obtain ⟨i1, i2⟩ := u8s_ints hq'
        rw [hex]
        refine .val (v' := .string ⟨(l.map toU8).toArray⟩) ?_ (.flat rfl)
        rw [g1]
        refine hconv _ _ _ _ ?_
        have := run_bytesToString (P := P) w ⟨loc.block, p.off, none⟩ len c' (l.map u8int) (by
          rw [← i1, ← hcs]
          simpa using g5)
        rw [i2] at this
        simpa using this
    · trivial
  · unfold b2sF
    split
    · rename_i q hp0
      cases hle : Nat.ble q.1 q.2.length with
      | false => rw [cond_false]; trivial
      | true =>
        rw [cond_true]
        cases hu : (q.2.take q.1).all isU8 with
        | false => rw [cond_false]; trivial
        | true =>
          rw [cond_true]
          have hle' := Nat.le_of_ble_eq_true hle
          have hq' := list_all hu
          obtain ⟨i1, i2⟩ := u8s_ints hq'
          rw [hex]
          refine .val (v' := .string ⟨((q.2.take q.1).map toU8).toArray⟩) ?_ (.flat rfl)
          rcases hv.row_inv hp0 with ⟨a', c', h1, h2, h3⟩ | ⟨b, o', c', f, g1, _, g2, g3⟩
          · rw [h3, h1]
            cases a' with
            | none =>
              rw [run_vNext]
              simp only [convert, Sem.run_bind, run_under hs, run_under hd, Result.andThen_ok, run_under hel]
              rfl
            | some a' =>
              refine hconv _ _ _ _ ?_
              have hl : (loadCells a' 0).run P w = .ok #[] w := by simpa using run_loadCells (P := P) w a' 0 (fun _ => undef) (by intro j hj; omega)
              have := run_bytesToString (P := P) w a' 0 c' [] (by simpa using hl)
              simp only [List.take_zero, List.map_nil]
              exact this
          · rw [g1]
            refine hconv _ _ _ _ ?_
            obtain ⟨arr, k1, k2⟩ := run_load_fz (P := P) (off := 0) (n := q.1) hR g2 g3 (by omega) rfl
            have e0 : slotsOf q.2 0 q.1 = q.2.take q.1 := by simp [slotsOf]
            rw [e0] at k2
            have hcs : arr.toList = q.2.take q.1 := k2.of_flat fun v hv => flat_u8 (hq' v hv)
            have := run_bytesToString (P := P) w ⟨b, o', none⟩ q.1 c' ((q.2.take q.1).map u8int) (by
              rw [← i1, ← hcs]
              simpa using k1)
            rw [i2] at this
            simpa using this
    · exact gen_sound hk hE hops

theorem shape?_alloc (w : World) (arr : Array Value) (el : TypeId) : (w.alloc (.cells arr el)).shape? w.heap.size = some (el, arr.size) := by
  unfold World.shape?
  rw [show (w.alloc (.cells arr el)).heap = w.heap.push (.cells arr el) from rfl]
  simp

theorem modify_push {α : Type} (h : Array α) (x : α) (f : α → α) : (h.push x).modify h.size f = h.push (f x) := by
  apply Array.ext_getElem?
  intro i
  rw [Array.getElem?_modify, Array.getElem?_push, Array.getElem?_push]
  by_cases hi : i = h.size
  · simp [hi]
  · have : ¬ h.size = i := fun e => hi e.symm
    simp [hi, this]

theorem u8s_cell (l : List UInt8) (i : Nat) : (u8s l)[i]? = (l[i]?).map fun b => Value.int .u8 b.toNat := by simp [u8s]

theorem s2b_sound {ρ : Ren} {B : Nat} {H : AH} {w : World} {e : Env} {a : Act} {fresh : Nat} {o : Oper} {src dst el : TypeId} {x : Operand} (ho : o.op = .convert src dst x) (hs : tyU P src = some .string) (hd : tyU P dst = some (.slice el)) (hel : tyU P el = some (.int .u8))
    (hE : ERel ρ e a) (hops : ∀ x ∈ o.op.operands.toList, okOpd x = true) : ResOK P ρ B H w (execOp a.eval o) fresh (s2bA el fresh (evl e x)) := by
  have hx : okOpd x = true := hops x (by rw [ho]; simp [Op.operands])
  have hv := evl_rel hE x hx
  have hex : execOp a.eval o = vNext (convert src dst (a.eval x)) := by simp only [execOp, ho, vNext]
  unfold s2bA
  split
  · rename_i s h0
    rw [h0] at hv
    have hcap := grownCap_ge w s.size 0 el
    have hrun : ∃ arr : Array Value, arr = (s.data.map fun b => Value.int .u8 b.toNat) ++ Array.replicate (grownCap w s.size 0 el - s.size) (.int .u8 0) ∧
        (vNext (convert src dst (a.eval x))).run P w = .ok (.value (.slice (some ⟨w.heap.size, 0, none⟩) s.size (grownCap w s.size 0 el))) ((w.drew.alloc (.cells arr el)).freeze ⟨w.heap.size, arr.size, none⟩ 1) := by
      refine ⟨_, rfl, ?_⟩
      rw [run_vNext, hv.string_inv]
      simp only [convert, Sem.run_bind, run_under hs, run_under hd, Result.andThen_ok, run_under hel, Conv.stringToBytes, run_choose, Question.forced, Bool.false_eq_true, if_false, newRow, run_newObj, Sem.run_pure, markStringish, run_shape, World.alloc_eq, World.drew_eq]
      have hq : ∀ arr : Array Value, (w.drew.alloc (.cells arr el)).shape? w.drew.heap.size = some (el, arr.size) := fun arr => shape?_alloc w.drew arr el
      simp only [hq]
      rfl
    obtain ⟨arr, harr, hrun⟩ := hrun
    rw [hex]
    have hlen : s.data.toList.length = s.size := by simp
    have hheap : ((w.drew.alloc (.cells arr el)).freeze ⟨w.heap.size, arr.size, none⟩ 1).heap = w.heap.push (.cells arr el (arr.size, arr.size + 1)) := by
      unfold World.freeze
      rw [if_neg (by decide)]
      have e9 : (w.drew.alloc (.cells arr el)).heap = w.heap.push (.cells arr el) := rfl
      dsimp only
      rw [e9, modify_push]
      rfl
    have hsz : arr.size = grownCap w s.size 0 el := by rw [harr]; simp; omega
    refine ⟨_, _, _, ⟨w.heap.size, grownCap w s.size 0 el, 1⟩, hrun, hheap, ⟨by unfold World.freeze; split <;> rfl, by unfold World.freeze; split <;> rfl⟩, rfl, fun ρ' _ h2 => ⟨?_, ?_⟩, ?_⟩
    · have := VR.slice_mk (ρ := ρ') (a := ⟨fresh, 0, some 0⟩) (len := s.data.toList.length) (c := 0) h2
      rw [hlen] at this ⊢
      simpa [capOf] using this
    · refine row_rel hheap rfl ?_ ?_ ?_ ?_ rfl (fun h => by cases h)
      · intro i v hv
        simp only [u8s_cell, Option.map_eq_some_iff] at hv
        obtain ⟨b, h3, rfl⟩ := hv
        refine ⟨.int .u8 b.toNat, ?_, .flat rfl⟩
        have hi : i < s.size := by
          rcases Nat.lt_or_ge i s.data.toList.length with h | h
          · omega
          · rw [List.getElem?_eq_none h] at h3; cases h3
        rw [harr, Array.getElem?_append_left (by simpa using hi)]
        have h4 : s.data[i]? = some b := by simpa using h3
        simp [h4]
      · intro h; cases h
      · intro _
        refine ⟨by simpa using hsz, ?_⟩
        simp only [CBlk.lenAt, CBlk.top, hsz]
        simpa [hlen] using hcap
      · intro i hi; omega
    · intro c hc
      cases hc
      exact ⟨by simp [u8s], Nat.zero_le _, fun h => h⟩
  · trivial

end
end Go.Den
