/-
  THE ENGINE, part J: references, addresses, reading, slicing.
-/
import Derived.Test.YtjihbfdbgamcdaaGreatDoorE2I
namespace Go.Den
noncomputable section

variable {P : Program}

theorem asNat_some {v : Value} {n : Nat} (h : asNat v = some n) : ∃ k, v = .int k (n : Int) := by
  unfold asNat at h
  split at h
  · rename_i k m; cases h; exact ⟨k, rfl⟩
  · cases h

theorem int2_sound {ρ : Ren} {B : Nat} {H : AH} {w : World} {e : Env} {a : Act} {fresh : Nat} {o : Oper} {op : BinOp} {t yt : TypeId} {x y : Operand} (ho : o.op = .binOp op t x y yt) (hk : opKind o.op = true) (hE : ERel ρ e a) (hops : ∀ x ∈ o.op.operands.toList, okOpd x = true) :
    ResOK P ρ B H w (execOp a.eval o) fresh (int2A P e op (evl e x) (evl e y) o) := by
  have hx : okOpd x = true := hops x (by rw [ho]; simp [Op.operands])
  have hy : okOpd y = true := hops y (by rw [ho]; simp [Op.operands])
  have hvx := evl_rel hE x hx
  have hvy := evl_rel hE y hy
  unfold int2A
  split
  · rename_i j m k n e1 e2
    rw [e1] at hvx
    rw [e2] at hvy
    unfold orGen
    split
    · rename_i v hv
      refine .val ?_ (v' := v) ?_
      · have hrun : (binOp op t (.int j m) (.int k n)).run P w = .ok v w := by
          unfold intsF at hv
          cases hs : isShift op with
          | true => rw [hs, cond_true] at hv; exact shF_run hv t w
          | false =>
            rw [hs, cond_false] at hv
            cases hsk : sameKind j k with
            | false => rw [hsk, cond_false] at hv; cases hv
            | true => rw [hsk, cond_true] at hv; cases sameKind_eq hsk; exact intF_run hs hv t w
        simp only [execOp, ho, hvx.int_inv, hvy.int_inv]
        simp [eqGuard_int, hrun]
      · refine .flat ?_
        have : ∀ (op : BinOp) (k : IntKind) (m n : Int) (v : Value), bitsF op k m n = some v → flat v = true := by
          intro op k m n v h
          unfold bitsF at h
          split at h
          · cases hq : (Nat.blt _ (bigMod k) && Nat.blt _ (bigMod k)) with
            | false => rw [hq, cond_false] at h; cases h
            | true => rw [hq, cond_true] at h; split at h <;> first | (rw [mkI_eq] at h; cases h; rfl) | cases h
          · cases h
        unfold intsF at hv
        cases hs : isShift op with
        | true =>
          rw [hs, cond_true] at hv
          unfold shF at hv
          split at hv
          · cases hq : Nat.blt _ j.bits with
            | false => rw [hq, cond_false] at hv; cases hv
            | true => rw [hq, cond_true] at hv; split at hv <;> first | (rw [mkI_eq] at hv; cases hv; rfl) | cases hv
          · cases hv
        | false =>
          rw [hs, cond_false] at hv
          cases hsk : sameKind j k with
          | false => rw [hsk, cond_false] at hv; cases hv
          | true =>
            rw [hsk, cond_true] at hv
            unfold intF at hv
            split at hv
            all_goals first
              | (rw [mkI_eq] at hv; cases hv; rfl)
              | (cases hv; rfl)
              | (cases hv; done)
              | exact this _ _ _ _ _ hv
              | (split at hv <;> first | (rw [mkI_eq] at hv; cases hv; rfl) | cases hv)
    · exact gen_sound hk hE hops
  · trivial

/- REFERENCES -/

theorem nilPtr_some {u : Value} {r : Bool} (h : nilPtr u = some r) : (u = .pointer none ∧ r = true) ∨ ((∃ a, u = .pointer (some a)) ∧ r = false) ∨ ((∃ p, asFP u = some p) ∧ r = false) := by
  unfold nilPtr at h
  split at h
  · cases h; exact .inl ⟨rfl, rfl⟩
  · cases h; exact .inr (.inl ⟨⟨_, rfl⟩, rfl⟩)
  · split at h
    · rename_i p hp; cases h; exact .inr (.inr ⟨⟨p, hp⟩, rfl⟩)
    · cases h

theorem nilSl_some {u : Value} {r : Bool} (h : nilSl u = some r) : (∃ m n, u = .slice none m n ∧ r = true) ∨ ((∃ a m n, u = .slice (some a) m n) ∧ r = false) ∨ ((∃ n cs, asFL u = some (n + 1, cs)) ∧ r = false) := by
  unfold nilSl at h
  split at h
  · cases h; exact .inl ⟨_, _, rfl, rfl⟩
  · cases h; exact .inr (.inl ⟨⟨_, _, _, rfl⟩, rfl⟩)
  · split at h
    · cases h
    · rename_i n cs hp; cases h; exact .inr (.inr ⟨⟨n, cs, hp⟩, rfl⟩)
    · cases h

theorem nilMap_some {u : Value} {r : Bool} (h : nilMap u = some r) : (u = .map none ∧ r = true) ∨ ((∃ a, u = .map (some a)) ∧ r = false) := by
  unfold nilMap at h
  split at h
  · cases h; exact .inl ⟨rfl, rfl⟩
  · cases h; exact .inr ⟨⟨_, rfl⟩, rfl⟩
  · cases h

theorem nilFn_some {u : Value} {r : Bool} (h : nilFn u = some r) : (u = .nilFunc ∧ r = true) ∨ ((∃ f x y, u = .func f x y ∧ fnFlat f = true) ∧ r = false) := by
  unfold nilFn at h
  split at h
  · cases h; exact .inl ⟨rfl, rfl⟩
  · rename_i fn x y
    cases hq : fnFlat fn with
    | false => rw [hq, cond_false] at h; cases h
    | true => rw [hq, cond_true] at h; cases h; exact .inr ⟨⟨_, _, _, rfl, hq⟩, rfl⟩
  · cases h

/-- What a value in the world is. -/
def NilW (d : TypeDesc) (u : Value) (r : Bool) : Prop :=
    (∃ elem, d = .pointer elem ∧ ((u = .pointer none ∧ r = true) ∨ ∃ a, u = .pointer (some a) ∧ r = false)) ∨
    (∃ elem, d = .slice elem ∧ ((∃ m n, u = .slice none m n ∧ r = true) ∨ ∃ a m n, u = .slice (some a) m n ∧ r = false)) ∨
    (∃ k elem, d = .map k elem ∧ ((u = .map none ∧ r = true) ∨ ∃ a, u = .map (some a) ∧ r = false)) ∨
    (∃ x y z, d = .func x y z ∧ ((u = .nilFunc ∧ r = true) ∨ ∃ f x y, u = .func f x y ∧ r = false))

theorem nilOf_rel {ρ : Ren} {d : TypeDesc} {v v' : Value} {r : Bool} (hv : VR ρ v v') (h : nilOf d v = some r) : NilW d v' r := by
  unfold nilOf at h
  split at h
  · refine .inl ⟨_, rfl, ?_⟩
    rcases nilPtr_some h with ⟨rfl, rfl⟩ | ⟨⟨a, rfl⟩, rfl⟩ | ⟨⟨p, hp⟩, rfl⟩
    · exact .inl ⟨hv.of_flat rfl, rfl⟩
    · obtain ⟨l, _, rfl⟩ := hv.ptr_inv; exact .inr ⟨_, rfl, rfl⟩
    · rw [asFP_some hp] at hv
      obtain ⟨b, o, f, rfl, _⟩ := hv.fptr_inv
      exact .inr ⟨_, rfl, rfl⟩
  · refine .inr (.inl ⟨_, rfl, ?_⟩)
    rcases nilSl_some h with ⟨m, n, rfl, rfl⟩ | ⟨⟨a, m, n, rfl⟩, rfl⟩ | ⟨⟨n, cs, hp⟩, rfl⟩
    · exact .inl ⟨_, _, hv.of_flat rfl, rfl⟩
    · obtain ⟨_, _, rfl⟩ := hv.slice_len; exact .inr ⟨_, _, _, rfl, rfl⟩
    · rcases hv.row_inv hp with ⟨_, _, h0, _⟩ | ⟨b, o, c', f, rfl, _⟩
      · cases h0
      · exact .inr ⟨_, _, _, rfl, rfl⟩
  · refine .inr (.inr (.inl ⟨_, _, rfl, ?_⟩))
    rcases nilMap_some h with ⟨rfl, rfl⟩ | ⟨⟨a, rfl⟩, rfl⟩
    · exact .inl ⟨hv.of_flat rfl, rfl⟩
    · obtain ⟨l, _, rfl⟩ := hv.map_inv; exact .inr ⟨_, rfl, rfl⟩
  · refine .inr (.inr (.inr ⟨_, _, _, rfl, ?_⟩))
    rcases nilFn_some h with ⟨rfl, rfl⟩ | ⟨⟨f, x, y, rfl, hf⟩, rfl⟩
    · exact .inl ⟨hv.of_flat rfl, rfl⟩
    · obtain ⟨_, _, rfl, _⟩ := hv.func_inv hf; exact .inr ⟨_, _, _, rfl, rfl⟩
  · cases h

theorem eqGuard_ref {op : BinOp} {t : TypeId} {x y : Operand} {d : TypeDesc} {u v : Value} {r : Bool} (h : NilW d u r) (w : World) : (eqGuard op t x y u v).run P w = .ok () w := by
  unfold eqGuard
  rcases h with ⟨_, rfl, ⟨rfl, rfl⟩ | ⟨_, rfl, rfl⟩⟩ | ⟨_, rfl, ⟨_, _, rfl, rfl⟩ | ⟨_, _, _, rfl, rfl⟩⟩ | ⟨_, _, rfl, ⟨rfl, rfl⟩ | ⟨_, rfl, rfl⟩⟩ | ⟨_, _, _, rfl, ⟨rfl, rfl⟩ | ⟨_, _, _, rfl, rfl⟩⟩ <;> cases op <;> rfl

theorem equal_nil {t : TypeId} {d : TypeDesc} (ht : tyU P t = some d) {u v : Value} {r s : Bool} (hu : NilW d u r) (hv : NilW d v s) (hrs : r = true ∨ s = true) (w : World) :
    (Op.equal t u v).run P w = .ok (r && s) w := by
  unfold Op.equal
  show (Op.equalIn (9999 + 1) t u v).run P w = _
  rcases hu with ⟨_, rfl, h1⟩ | ⟨_, rfl, h1⟩ | ⟨_, _, rfl, h1⟩ | ⟨_, _, _, rfl, h1⟩
  · rcases hv with ⟨_, e, h2⟩ | ⟨_, e, h2⟩ | ⟨_, _, e, h2⟩ | ⟨_, _, _, e, h2⟩
    · rcases h1 with ⟨rfl, rfl⟩ | ⟨_, rfl, rfl⟩ <;> rcases h2 with ⟨rfl, rfl⟩ | ⟨_, rfl, rfl⟩ <;> first | (rw [Op.equalIn.eq_2]; simp only [Sem.run_bind, run_under ht, Result.andThen_ok]; rfl) | simp at hrs
    · cases e
    · cases e
    · cases e
  · rcases hv with ⟨_, e, h2⟩ | ⟨_, e, h2⟩ | ⟨_, _, e, h2⟩ | ⟨_, _, _, e, h2⟩
    · cases e
    · rcases h1 with ⟨_, _, rfl, rfl⟩ | ⟨_, _, _, rfl, rfl⟩ <;> rcases h2 with ⟨_, _, rfl, rfl⟩ | ⟨_, _, _, rfl, rfl⟩ <;> first | (rw [Op.equalIn.eq_2]; simp only [Sem.run_bind, run_under ht, Result.andThen_ok]; rfl) | simp at hrs
    · cases e
    · cases e
  · rcases hv with ⟨_, e, h2⟩ | ⟨_, e, h2⟩ | ⟨_, _, e, h2⟩ | ⟨_, _, _, e, h2⟩
    · cases e
    · cases e
    · rcases h1 with ⟨rfl, rfl⟩ | ⟨_, rfl, rfl⟩ <;> rcases h2 with ⟨rfl, rfl⟩ | ⟨_, rfl, rfl⟩ <;> first | (rw [Op.equalIn.eq_2]; simp only [Sem.run_bind, run_under ht, Result.andThen_ok]; rfl) | simp at hrs
    · cases e
  · rcases hv with ⟨_, e, h2⟩ | ⟨_, e, h2⟩ | ⟨_, _, e, h2⟩ | ⟨_, _, _, e, h2⟩
    · cases e
    · cases e
    · cases e
    · rcases h1 with ⟨rfl, rfl⟩ | ⟨_, _, _, rfl, rfl⟩ <;> rcases h2 with ⟨rfl, rfl⟩ | ⟨_, _, _, rfl, rfl⟩ <;> first | (rw [Op.equalIn.eq_2]; simp only [Sem.run_bind, run_under ht, Result.andThen_ok]; rfl) | simp at hrs

theorem equal_ptr {t elem : TypeId} (ht : tyU P t = some (.pointer elem)) {i : TypeInfo} (hi : tyInfo P elem = some i) (hs : 0 < i.size) (a : Addr) (w : World) :
    (Op.equal t (.pointer (some a)) (.pointer (some a))).run P w = .ok true w := by
  unfold Op.equal
  show (Op.equalIn (9999 + 1) t _ _).run P w = _
  have h0 : ¬ i.size = 0 := by omega
  rw [Op.equalIn.eq_2]
  simp only [Sem.run_bind, run_under ht, Result.andThen_ok, run_size hi, ne_eq, h0, not_false_eq_true, if_true, sameAddr, beq_self_eq_true, Sem.run_ite]
  rfl

theorem binOp_eq {op : BinOp} {t : TypeId} {d : TypeDesc} {u v : Value} {r b : Bool} (hu : NilW d u r) {w : World} (h : (Op.equal t u v).run P w = .ok b w) (neg : Bool) (hop : op = if neg then .neq else .eql) :
    (binOp op t u v).run P w = .ok (.bool (b != neg)) w := by
  subst hop
  have e1 : binOp .eql t u v = (Op.equal t u v >>= fun r => pure (.bool r)) := by
    rcases hu with ⟨_, rfl, ⟨rfl, rfl⟩ | ⟨_, rfl, rfl⟩⟩ | ⟨_, rfl, ⟨_, _, rfl, rfl⟩ | ⟨_, _, _, rfl, rfl⟩⟩ | ⟨_, _, rfl, ⟨rfl, rfl⟩ | ⟨_, rfl, rfl⟩⟩ | ⟨_, _, _, rfl, ⟨rfl, rfl⟩ | ⟨_, _, _, rfl, rfl⟩⟩ <;> rfl
  have e2 : binOp .neq t u v = (Op.equal t u v >>= fun r => pure (.bool (!r))) := by
    rcases hu with ⟨_, rfl, ⟨rfl, rfl⟩ | ⟨_, rfl, rfl⟩⟩ | ⟨_, rfl, ⟨_, _, rfl, rfl⟩ | ⟨_, _, _, rfl, rfl⟩⟩ | ⟨_, _, rfl, ⟨rfl, rfl⟩ | ⟨_, rfl, rfl⟩⟩ | ⟨_, _, _, rfl, ⟨rfl, rfl⟩ | ⟨_, _, _, rfl, rfl⟩⟩ <;> rfl
  cases neg
  · show (binOp .eql t u v).run P w = _
    rw [e1]; simp [h]
  · show (binOp .neq t u v).run P w = _
    rw [e2]; simp [h]

theorem ref_sound {ρ : Ren} {B : Nat} {H : AH} {w : World} {e : Env} {a : Act} {fresh : Nat} {o : Oper} {op : BinOp} {t yt : TypeId} {x y : Operand} (ho : o.op = .binOp op t x y yt) (hE : ERel ρ e a) (hops : ∀ x ∈ o.op.operands.toList, okOpd x = true)
    {neg : Bool} (hop : op = if neg then .neq else .eql) {d : TypeDesc} (ht : tyU P t = some d) {i : Ins} (hc : compRef P neg d x y = some i) : ResOK P ρ B H w (execOp a.eval o) fresh (insA P e H fresh i) := by
  have hx : okOpd x = true := hops x (by rw [ho]; simp [Op.operands])
  have hy : okOpd y = true := hops y (by rw [ho]; simp [Op.operands])
  have hvx := evl_rel hE x hx
  have hvy := evl_rel hE y hy
  have hi : i = .ref neg d x y := by
    unfold compRef at hc
    split at hc
    · split at hc
      · split at hc
        · cases hc; rfl
        · cases hc
      · cases hc
    · cases hc; rfl
    · cases hc; rfl
    · cases hc; rfl
    · cases hc
  subst hi
  have fin : ∀ (r s b : Bool), nilOf d (evl e x) = some r → nilOf d (evl e y) = some s → (Op.equal t (a.eval x) (a.eval y)).run P w = .ok b w → ResOK P ρ B H w (execOp a.eval o) fresh (val (.bool (b != neg))) := by
    intro r s b h1 h2 h3
    refine .val (v' := .bool (b != neg)) ?_ (.flat rfl)
    simp only [execOp, ho]
    simp [eqGuard_ref (nilOf_rel hvx h1), binOp_eq (nilOf_rel hvx h1) h3 neg hop]
  show ResOK P ρ B H w (execOp a.eval o) fresh (refA neg d (evl e x) (evl e y))
  unfold refA
  split
  · rename_i h1 h2
    have := fin true true true h1 h2 (by simpa using equal_nil ht (nilOf_rel hvx h1) (nilOf_rel hvy h2) (.inl rfl) w)
    cases neg <;> exact this
  · rename_i h1 h2
    have := fin true false false h1 h2 (by simpa using equal_nil ht (nilOf_rel hvx h1) (nilOf_rel hvy h2) (.inl rfl) w)
    cases neg <;> exact this
  · rename_i h1 h2
    have := fin false true false h1 h2 (by simpa using equal_nil ht (nilOf_rel hvx h1) (nilOf_rel hvy h2) (.inr rfl) w)
    cases neg <;> exact this
  · rename_i h1 h2
    cases hsp : samePtr (evl e x) (evl e y) with
    | false => rw [cond_false]; trivial
    | true =>
      rw [cond_true]
      unfold samePtr at hsp
      split at hsp
      · rename_i p q e1 e2
        simp only [Bool.and_eq_true, Nat.beq_eq] at hsp
        rw [e1] at h1 hvx
        rw [e2] at h2 hvy
        obtain ⟨l1, g1, g2⟩ := hvx.ptr_inv
        obtain ⟨l2, g3, g4⟩ := hvy.ptr_inv
        have hl : l1 = l2 := by rw [hsp.1, hsp.2.2, g3] at g1; exact (Option.some.inj g1).symm
        subst hl
        have hd : ∃ elem, d = .pointer elem := by
          unfold nilOf at h1
          split at h1
          · exact ⟨_, rfl⟩
          · simp [nilSl, asFL] at h1
          · simp [nilMap] at h1
          · simp [nilFn] at h1
          · cases h1
        obtain ⟨elem, rfl⟩ := hd
        have hsz : ∃ ti, tyInfo P elem = some ti ∧ 0 < ti.size := by
          unfold compRef at hc
          simp only at hc
          split at hc
          · rename_i ti hti
            split at hc
            · rename_i hlt; exact ⟨ti, hti, by simpa using hlt⟩
            · cases hc
          · cases hc
        obtain ⟨ti, hti, hlt⟩ := hsz
        have := fin false false true (by rw [e1]; exact h1) (by rw [e2]; exact h2) (by rw [g2, g4, hsp.2.1]; exact equal_ptr ht hti hlt _ w)
        cases neg <;> exact this
      · cases hsp
  · trivial

/- ADDRESSES -/

theorem nilc_sound {ρ : Ren} {B : Nat} {H : AH} {w : World} {e : Env} {a : Act} {fresh : Nat} (hE : ERel ρ e a) {x : Operand} (hx : okOpd x = true) {o : Oper} (ho : o.op = .nilCheck x) :
    ResOK P ρ B H w (execOp a.eval o) fresh (nilcA (evl e x)) := by
  have h := evl_rel hE x hx
  unfold nilcA
  split
  · rename_i p h0
    rw [h0] at h
    obtain ⟨l, g1, g2⟩ := h.ptr_inv
    refine .val (v' := a.eval x) ?_ h
    simp only [execOp, ho, g2]
    rfl
  · unfold nilcF
    split
    · rename_i p hp
      have h' := h
      rw [asFP_some hp] at h'
      obtain ⟨b, o, f, g2, _⟩ := h'.fptr_inv
      refine .val (v' := a.eval x) ?_ h
      simp only [execOp, ho, g2]
      rfl
    · trivial

/-- An address and a number more. -/
theorem faddrA_cases {ρ : Ren} {off : Nat} {v v' : Value} (hv : VR ρ v v') : faddrA off v = .none ∨ ∃ (x : Value) (b o : Nat), faddrA off v = val x ∧ v' = .pointer (some ⟨b, o, none⟩) ∧ VR ρ x (.pointer (some ⟨b, o + off, none⟩)) := by
  unfold faddrA
  split
  · rename_i p
    rw [forceN_eq]
    obtain ⟨l, g1, g2⟩ := hv.ptr_inv
    exact .inr ⟨_, l.block, p.off, rfl, g2, VR.ptr (a := ⟨p.block, p.off + off, p.spot⟩) g1⟩
  · unfold faddrF
    split
    · rename_i p hp
      rw [forceN_eq]
      rw [asFP_some hp] at hv
      obtain ⟨b, o, f, g1, g2, g3⟩ := hv.fptr_inv
      refine .inr ⟨_, b, o + p.1, rfl, g1, ?_⟩
      have := VR.fptr (ρ := ρ) (off := p.1 + off) (cs := p.2) (a' := ⟨b, o, none⟩) f g2 g3
      simpa [Nat.add_assoc] using this
    · exact .inl rfl

theorem faddr_sound {ρ : Ren} {B : Nat} {H : AH} {w : World} {e : Env} {a : Act} {fresh : Nat} (hE : ERel ρ e a) {x : Operand} (hx : okOpd x = true) {s : TypeId} {f : Nat} {i : Ins} (hc : compFaddr P s x f = some i) :
    ResOK P ρ B H w (vNext (Instr.fieldAt s (a.eval x) f)) fresh (insA P e H fresh i) := by
  have h := evl_rel hE x hx
  unfold compFaddr at hc
  split at hc
  · rename_i fields h1
    split at hc
    · rename_i fd h2
      split at hc
      · rename_i ti h3
        split at hc
        · cases hc
        · rename_i h4
          cases hc
          show ResOK P ρ B H w _ fresh (faddrA fd.offset (evl e x))
          rcases faddrA_cases (off := fd.offset) h with h0 | ⟨v, b, o, h0, g1, g2⟩
          · rw [h0]; trivial
          · rw [h0]
            refine .val ?_ g2
            have h5 : ¬ ti.size = 0 := by simpa using h4
            have h2' : fields[f]? = some fd := h2
            rw [run_vNext, g1]
            simp [Instr.fieldAt, run_under h1, h2', Instr.sureAddr, fieldPlace, run_size h3, h5, addr_add]
      · cases hc
    · cases hc
  · cases hc

theorem iaddr_sound {ρ : Ren} {B : Nat} {H : AH} {w : World} {e : Env} {a : Act} {fresh : Nat} (hE : ERel ρ e a) {x y : Operand} (hx : okOpd x = true) (hy : okOpd y = true) {t : TypeId} {i : Ins} (hc : compIaddr P t x y = some i) :
    ResOK P ρ B H w (vNext (Instr.indexAt t (a.eval x) (a.eval y))) fresh (insA P e H fresh i) := by
  have h := evl_rel hE x hx
  have hi := evl_rel hE y hy
  unfold compIaddr at hc
  split at hc
  · rename_i len elem h1
    split at hc
    · rename_i ti h2
      cases hc
      show ResOK P ρ B H w _ fresh (iaddrAA len ti.size (evl e x) (evl e y))
      unfold iaddrAA
      split
      · rename_i n e2
        cases hq : Nat.blt n len with
        | false => rw [cond_false]; trivial
        | true =>
          rw [cond_true]
          have hlt : n < len := Nat.le_of_ble_eq_true hq
          obtain ⟨k, e3⟩ := asNat_some e2
          rw [e3] at hi
          rcases faddrA_cases (off := Nat.mul n ti.size) h with h0 | ⟨v, b, o, h0, g1, g2⟩
          · rw [h0]; trivial
          · rw [h0]
            refine .val ?_ g2
            rw [run_vNext, g1, hi.int_inv]
            simp [Instr.indexAt, asIntOf, run_under h1, Instr.sureAddr, run_size h2, addr_add]
            intro h9; omega
      · trivial
    · cases hc
  · rename_i elem h1
    split at hc
    · rename_i ti h2
      cases hc
      show ResOK P ρ B H w _ fresh (iaddrSA ti.size (evl e x) (evl e y))
      unfold iaddrSA
      split
      · rename_i n e2
        obtain ⟨k, e3⟩ := asNat_some e2
        rw [e3] at hi
        unfold iaddrSS
        split
        · rename_i p len c e1
          rw [e1] at h
          cases hq : Nat.blt n len with
          | false => rw [cond_false]; trivial
          | true =>
            rw [cond_true, forceN_eq]
            have hlt : n < len := Nat.le_of_ble_eq_true hq
            obtain ⟨l, g1, g2⟩ := h.slice_inv (.inl (by omega))
            refine .val (v' := .pointer (some ⟨l.block, p.off + n * ti.size, none⟩)) ?_ (VR.ptr (a := ⟨p.block, p.off + n * ti.size, p.spot⟩) g1)
            rw [run_vNext, g2, hi.int_inv]
            simp [Instr.indexAt, asIntOf, run_under h1, run_size h2, addr_add]
            intro h9; omega
        · unfold iaddrSF
          split
          · rename_i p hp
            cases hq : Nat.blt n p.1 with
            | false => rw [cond_false]; trivial
            | true =>
              rw [cond_true, forceN_eq]
              have hlt : n < p.1 := Nat.le_of_ble_eq_true hq
              rcases h.row_inv hp with ⟨_, _, h0, _⟩ | ⟨b, o, c', f, g1, _, g2, g3⟩
              · omega
              · refine .val (v' := .pointer (some ⟨b, o + n * ti.size, none⟩)) ?_ (VR.fptr (a' := ⟨b, o, none⟩) f g2 g3)
                rw [run_vNext, g1, hi.int_inv]
                simp [Instr.indexAt, asIntOf, run_under h1, run_size h2, addr_add]
                intro h9; omega
          · trivial
      · trivial
    · cases hc
  · cases hc

/- READING -/

theorem valO_val {o : Option Value} {x : Value} (h : valO o = val x) : o = some x := by
  cases o with
  | none => cases h
  | some y => cases h; rfl

theorem load1_run {ρ : Ren} {B : Nat} {H : AH} {w : World} (hR : Rel ρ B H w) {t : TypeId} {d : TypeDesc} (ht : tyU P t = some d) (hd : isAggD d = false) {v v' x : Value} (hv : VR ρ v v') (h : load1A H v = val x) :
    ∃ a x', v' = .pointer (some a) ∧ (loadVar t a).run P w = .ok x' w ∧ VR ρ x x' := by
  unfold load1A at h
  split at h
  · rename_i p
    split at h
    · rename_i b hb
      have hy := valO_val h
      obtain ⟨l, g1, g2⟩ := hv.ptr_inv
      obtain ⟨u, u', h1, h2, h3⟩ := rd_cell hR hb g1 0 (by omega)
      simp only [Nat.add_zero] at h1 h2
      rw [hy] at h1
      cases h1
      refine ⟨_, u', g2, ?_, h3⟩
      simp [loadVar, run_agg ht, hd, h2]
    · cases h
  · unfold load1F at h
    split at h
    · rename_i p hp
      have hy := valO_val h
      rw [asFP_some hp] at hv
      obtain ⟨b, o, f, g1, g2, g3⟩ := hv.fptr_inv
      have hlt : p.1 < p.2.length := by
        rcases Nat.lt_or_ge p.1 p.2.length with h | h
        · exact h
        · rw [List.getElem?_eq_none h] at hy; cases hy
      have h2 := hR.fz.cell _ _ _ (g2 p.1 hlt)
      refine ⟨_, f p.1, g1, ?_, (g3 _ _ hy).mono (.of_noloc ρ)⟩
      simp [loadVar, run_agg ht, hd, h2]
    · cases h

/-- Frozen cells, read. -/
theorem run_load_fz {ρ : Ren} {B : Nat} {H : AH} {w : World} (hR : Rel ρ B H w) {b o off n : Nat} {cs : List Value} {f : Nat → Value} (hc : ∀ i, i < cs.length → ρ.cell b (o + i) = some (f i)) (hv : ∀ (i : Nat) (v : Value), cs[i]? = some v → VR ρ.noloc v (f i)) (hn : off + n ≤ cs.length)
    {w2 : World} (h2 : w2.heap = w.heap) : ∃ arr : Array Value, (loadCells ⟨b, o + off, none⟩ n).run P w2 = .ok arr w2 ∧ VRL ρ (slotsOf cs off n) arr.toList := by
  refine ⟨_, run_loadCells w2 ⟨b, o + off, none⟩ n (fun j => f (off + j)) ?_, ?_⟩
  · intro j hj
    rw [addr_add]
    have := hR.fz.cell _ _ _ (hc (off + j) (by omega))
    have e : w2.cell? ⟨b, o + off + j, none⟩ = w.cell? ⟨b, o + off + j, none⟩ := by unfold World.cell?; rw [h2]
    rw [e, Nat.add_assoc]
    exact this
  · refine ⟨by simp [slotsOf]; omega, ?_⟩
    intro i v v' e e'
    simp only [slotsOf, List.getElem?_take, List.getElem?_drop] at e
    split at e
    · rename_i hi
      simp only [List.getElem?_map, List.getElem?_range hi, Option.map_some, Option.some.injEq] at e'
      subst e'
      exact (hv _ _ e).mono (.of_noloc ρ)
    · cases e

theorem loadN_run {ρ : Ren} {B : Nat} {H : AH} {w : World} (hR : Rel ρ B H w) {t : TypeId} {d : TypeDesc} {i : TypeInfo} (ht : tyU P t = some d) (hi : tyInfo P t = some i) (hd : isAggD d = true) {v v' x : Value} (hv : VR ρ v v') (h : loadNA H i.size v = val x) :
    ∃ a x', v' = .pointer (some a) ∧ (loadVar t a).run P w = .ok x' w ∧ VR ρ x x' := by
  unfold loadNA at h
  split at h
  · rename_i p
    split at h
    · rename_i b hb
      cases h
      obtain ⟨l, g1, g2⟩ := hv.ptr_inv
      obtain ⟨cs, h1, h2⟩ := run_load_row (P := P) hR hb g1
      refine ⟨_, .agg cs, g2, ?_, .agg_mk (by simpa using h2)⟩
      simp [loadVar, run_agg ht, hd, run_size hi, h1]
    · cases h
  · unfold loadNF at h
    split at h
    · rename_i p hp
      cases hq : Nat.ble (p.1 + i.size) p.2.length with
      | false => rw [hq, cond_false] at h; cases h
      | true =>
        rw [hq, cond_true] at h
        cases h
        rw [asFP_some hp] at hv
        obtain ⟨b, o, f, g1, g2, g3⟩ := hv.fptr_inv
        obtain ⟨cs, h1, h2⟩ := run_load_fz (P := P) hR g2 g3 (Nat.le_of_ble_eq_true hq) rfl
        refine ⟨_, .agg cs, g1, ?_, .agg_mk (by simpa using h2)⟩
        simp [loadVar, run_agg ht, hd, run_size hi, h1]
    · cases h

theorem valO_cases (o : Option Value) : valO o = .none ∨ ∃ x, valO o = val x := by
  cases o with
  | none => exact .inl rfl
  | some x => exact .inr ⟨x, rfl⟩

theorem load1A_cases (H : AH) (v : Value) : load1A H v = .none ∨ ∃ x, load1A H v = val x := by
  unfold load1A
  split
  · split
    · exact valO_cases _
    · exact .inl rfl
  · unfold load1F
    split
    · exact valO_cases _
    · exact .inl rfl

theorem loadNA_cases (H : AH) (n : Nat) (v : Value) : loadNA H n v = .none ∨ ∃ x, loadNA H n v = val x := by
  unfold loadNA
  split
  · split
    · exact .inr ⟨_, rfl⟩
    · exact .inl rfl
  · unfold loadNF
    split
    · rename_i p _
      cases Nat.ble (p.1 + n) p.2.length with
      | false => exact .inl rfl
      | true => exact .inr ⟨_, rfl⟩
    · exact .inl rfl

theorem load_sound {ρ : Ren} {B : Nat} {H : AH} {w : World} (hR : Rel ρ B H w) {e : Env} {a : Act} {fresh : Nat} (hE : ERel ρ e a) {x : Operand} (hx : okOpd x = true) {t : TypeId} {i : Ins} (hc : compLoad P t x = some i) :
    ResOK P ρ B H w (vNext (Instr.loadAt t (a.eval x))) fresh (insA P e H fresh i) := by
  have h := evl_rel hE x hx
  unfold compLoad at hc
  split at hc
  · rename_i ti d h1 h2
    split at hc
    · rename_i hd
      cases hc
      show ResOK P ρ B H w _ fresh (loadNA H ti.size (evl e x))
      rcases loadNA_cases H ti.size (evl e x) with h0 | ⟨y, h0⟩
      · rw [h0]; trivial
      · rw [h0]
        obtain ⟨p, y', g1, g2, g3⟩ := loadN_run hR h2 h1 hd h h0
        refine .val ?_ g3
        rw [run_vNext, g1]
        simp [Instr.loadAt, Instr.sureAddr, g2]
    · rename_i hd
      cases hc
      show ResOK P ρ B H w _ fresh (load1A H (evl e x))
      rcases load1A_cases H (evl e x) with h0 | ⟨y, h0⟩
      · rw [h0]; trivial
      · rw [h0]
        obtain ⟨p, y', g1, g2, g3⟩ := load1_run hR h2 (by simpa using hd) h h0
        refine .val ?_ g3
        rw [run_vNext, g1]
        simp [Instr.loadAt, Instr.sureAddr, g2]
  · cases hc

end
end Go.Den
