/-
  THE ENGINE, part J: references, addresses, reading, slicing.
-/
import Derived.Test.YtbpcageamcgehaaEngI
namespace Go.Den
noncomputable section

variable {P : Program}

theorem asNat_some {v : Value} {n : Nat} (h : asNat v = some n) : ∃ k, v = .int k (n : Int) := by
  unfold asNat at h
  split at h
  · rename_i k m; cases h; exact ⟨k, rfl⟩
  · cases h

theorem int2_sound {ρ : Ren} {B : Nat} {H : AH} {w : World} {e : Env} {a : Act} {fresh : Nat} {o : Oper} {op : BinOp} {t yt : TypeId} {x y : Operand} (ho : o.op = .binOp op t x y yt) (hk : opKind o.op = true) (hE : ERel ρ e a) (hops : ∀ x ∈ o.op.operands.toList, okOpd x = true) :
    ResOK P ρ B H w (execOp a.eval o) fresh (int2A P e op (evl e x) (evl e y) o) := by
  have hx : okOpd x = true := hops x (by rw [ho]; simp [Op.operands])
  have hy : okOpd y = true := hops y (by rw [ho]; simp [Op.operands])
  have hvx := evl_rel hE x hx
  have hvy := evl_rel hE y hy
  unfold int2A
  split
  · rename_i j m k n e1 e2
    rw [e1] at hvx
    rw [e2] at hvy
    unfold orGen
    split
    · rename_i v hv
      refine .val ?_ (v' := v) ?_
      · have hrun : (binOp op t (.int j m) (.int k n)).run P w = .ok v w := by
          unfold intsF at hv
          cases hs : isShift op with
          | true => rw [hs, cond_true] at hv; exact shF_run hv t w
          | false =>
            rw [hs, cond_false] at hv
            cases hsk : sameKind j k with
            | false => rw [hsk, cond_false] at hv; cases hv
            | true => rw [hsk, cond_true] at hv; cases sameKind_eq hsk; exact intF_run hs hv t w
        simp only [execOp, ho, hvx.int_inv, hvy.int_inv]
        simp [eqGuard_int, hrun]
      · refine .flat ?_
        have : ∀ (op : BinOp) (k : IntKind) (m n : Int) (v : Value), bitsF op k m n = some v → flat v = true := by
          intro op k m n v h
          unfold bitsF at h
          split at h
          · cases hq : (Nat.blt _ (bigMod k) && Nat.blt _ (bigMod k)) with
            | false => rw [hq, cond_false] at h; cases h
            | true => rw [hq, cond_true] at h; split at h <;> first | (rw [mkI_eq] at h; cases h; rfl) | cases h
          · cases h
        unfold intsF at hv
        cases hs : isShift op with
        | true =>
          rw [hs, cond_true] at hv
          unfold shF at hv
          split at hv
          · cases hq : Nat.blt _ j.bits with
            | false => rw [hq, cond_false] at hv; cases hv
            | true => rw [hq, cond_true] at hv; split at hv <;> first | (rw [mkI_eq] at hv; cases hv; rfl) | cases hv
          · cases hv
        | false =>
          rw [hs, cond_false] at hv
          cases hsk : sameKind j k with
          | false => rw [hsk, cond_false] at hv; cases hv
          | true =>
            rw [hsk, cond_true] at hv
            unfold intF at hv
            split at hv
            all_goals first
              | (rw [mkI_eq] at hv; cases hv; rfl)
              | (cases hv; rfl)
              | (cases hv; done)
              | exact this _ _ _ _ _ hv
              | (split at hv <;> first | (rw [mkI_eq] at hv; cases hv; rfl) | cases hv)
    · exact gen_sound hk hE hops
  · trivial

/- REFERENCES -/

theorem eqGuard_ref {op : BinOp} {t : TypeId} {x y : Operand} {d : TypeDesc} {u v : Value} {r : Bool} (h : nilOf d u = some r) (w : World) : (eqGuard op t x y u v).run P w = .ok () w := by
  unfold eqGuard
  cases op <;> first | rfl | (unfold nilOf at h; split at h <;> first | (cases h; done) | rfl)

theorem nilOf_rel {ρ : Ren} {d : TypeDesc} {v v' : Value} {r : Bool} (hv : VR ρ v v') (h : nilOf d v = some r) : nilOf d v' = some r := by
  unfold nilOf at h
  split at h
  · rw [hv.of_flat rfl]; exact h
  · obtain ⟨l, _, rfl⟩ := hv.ptr_inv; exact h
  · rw [hv.of_flat rfl]; exact h
  · obtain ⟨_, _, rfl⟩ := hv.slice_len; exact h
  · rw [hv.of_flat rfl]; exact h
  · obtain ⟨l, _, rfl⟩ := hv.map_inv; exact h
  · rw [hv.of_flat rfl]; exact h
  · obtain ⟨_, _, rfl, _⟩ := hv.func_inv; exact h
  · cases h

theorem nilOf_inv {d : TypeDesc} {u : Value} {r : Bool} (h : nilOf d u = some r) :
    (∃ elem, d = .pointer elem ∧ ((u = .pointer none ∧ r = true) ∨ ∃ a, u = .pointer (some a) ∧ r = false)) ∨
    (∃ elem, d = .slice elem ∧ ((∃ m n, u = .slice none m n ∧ r = true) ∨ ∃ a m n, u = .slice (some a) m n ∧ r = false)) ∨
    (∃ k elem, d = .map k elem ∧ ((u = .map none ∧ r = true) ∨ ∃ a, u = .map (some a) ∧ r = false)) ∨
    (∃ x y z, d = .func x y z ∧ ((u = .nilFunc ∧ r = true) ∨ ∃ f x y, u = .func f x y ∧ r = false)) := by
  unfold nilOf at h
  split at h
  · cases h; exact .inl ⟨_, rfl, .inl ⟨rfl, rfl⟩⟩
  · cases h; exact .inl ⟨_, rfl, .inr ⟨_, rfl, rfl⟩⟩
  · cases h; exact .inr (.inl ⟨_, rfl, .inl ⟨_, _, rfl, rfl⟩⟩)
  · cases h; exact .inr (.inl ⟨_, rfl, .inr ⟨_, _, _, rfl, rfl⟩⟩)
  · cases h; exact .inr (.inr (.inl ⟨_, _, rfl, .inl ⟨rfl, rfl⟩⟩))
  · cases h; exact .inr (.inr (.inl ⟨_, _, rfl, .inr ⟨_, rfl, rfl⟩⟩))
  · cases h; exact .inr (.inr (.inr ⟨_, _, _, rfl, .inl ⟨rfl, rfl⟩⟩))
  · cases h; exact .inr (.inr (.inr ⟨_, _, _, rfl, .inr ⟨_, _, _, rfl, rfl⟩⟩))
  · cases h

theorem equal_nil {t : TypeId} {d : TypeDesc} (ht : tyU P t = some d) {u v : Value} {r s : Bool} (hu : nilOf d u = some r) (hv : nilOf d v = some s) (hrs : r = true ∨ s = true) (w : World) :
    (Op.equal t u v).run P w = .ok (r && s) w := by
  unfold Op.equal
  show (Op.equalIn (9999 + 1) t u v).run P w = _
  rcases nilOf_inv hu with ⟨_, rfl, h1⟩ | ⟨_, rfl, h1⟩ | ⟨_, _, rfl, h1⟩ | ⟨_, _, _, rfl, h1⟩
  · rcases nilOf_inv hv with ⟨_, e, h2⟩ | ⟨_, e, h2⟩ | ⟨_, _, e, h2⟩ | ⟨_, _, _, e, h2⟩
    · rcases h1 with ⟨rfl, rfl⟩ | ⟨_, rfl, rfl⟩ <;> rcases h2 with ⟨rfl, rfl⟩ | ⟨_, rfl, rfl⟩ <;> first | (rw [Op.equalIn.eq_2]; simp only [Sem.run_bind, run_under ht, Result.andThen_ok]; rfl) | simp at hrs
    · cases e
    · cases e
    · cases e
  · rcases nilOf_inv hv with ⟨_, e, h2⟩ | ⟨_, e, h2⟩ | ⟨_, _, e, h2⟩ | ⟨_, _, _, e, h2⟩
    · cases e
    · rcases h1 with ⟨_, _, rfl, rfl⟩ | ⟨_, _, _, rfl, rfl⟩ <;> rcases h2 with ⟨_, _, rfl, rfl⟩ | ⟨_, _, _, rfl, rfl⟩ <;> first | (rw [Op.equalIn.eq_2]; simp only [Sem.run_bind, run_under ht, Result.andThen_ok]; rfl) | simp at hrs
    · cases e
    · cases e
  · rcases nilOf_inv hv with ⟨_, e, h2⟩ | ⟨_, e, h2⟩ | ⟨_, _, e, h2⟩ | ⟨_, _, _, e, h2⟩
    · cases e
    · cases e
    · rcases h1 with ⟨rfl, rfl⟩ | ⟨_, rfl, rfl⟩ <;> rcases h2 with ⟨rfl, rfl⟩ | ⟨_, rfl, rfl⟩ <;> first | (rw [Op.equalIn.eq_2]; simp only [Sem.run_bind, run_under ht, Result.andThen_ok]; rfl) | simp at hrs
    · cases e
  · rcases nilOf_inv hv with ⟨_, e, h2⟩ | ⟨_, e, h2⟩ | ⟨_, _, e, h2⟩ | ⟨_, _, _, e, h2⟩
    · cases e
    · cases e
    · cases e
    · rcases h1 with ⟨rfl, rfl⟩ | ⟨_, _, _, rfl, rfl⟩ <;> rcases h2 with ⟨rfl, rfl⟩ | ⟨_, _, _, rfl, rfl⟩ <;> first | (rw [Op.equalIn.eq_2]; simp only [Sem.run_bind, run_under ht, Result.andThen_ok]; rfl) | simp at hrs

theorem equal_ptr {t elem : TypeId} (ht : tyU P t = some (.pointer elem)) {i : TypeInfo} (hi : tyInfo P elem = some i) (hs : 0 < i.size) (a : Addr) (w : World) :
    (Op.equal t (.pointer (some a)) (.pointer (some a))).run P w = .ok true w := by
  unfold Op.equal
  show (Op.equalIn (9999 + 1) t _ _).run P w = _
  have h0 : ¬ i.size = 0 := by omega
  rw [Op.equalIn.eq_2]
  simp only [Sem.run_bind, run_under ht, Result.andThen_ok, run_size hi, ne_eq, h0, not_false_eq_true, if_true, sameAddr, beq_self_eq_true, Sem.run_ite]
  rfl

theorem binOp_eq {op : BinOp} {t : TypeId} {d : TypeDesc} {u v : Value} {r b : Bool} (hu : nilOf d u = some r) {w : World} (h : (Op.equal t u v).run P w = .ok b w) (neg : Bool) (hop : op = if neg then .neq else .eql) :
    (binOp op t u v).run P w = .ok (.bool (b != neg)) w := by
  subst hop
  have e1 : binOp .eql t u v = (Op.equal t u v >>= fun r => pure (.bool r)) := by
    rcases nilOf_inv hu with ⟨_, rfl, ⟨rfl, rfl⟩ | ⟨_, rfl, rfl⟩⟩ | ⟨_, rfl, ⟨_, _, rfl, rfl⟩ | ⟨_, _, _, rfl, rfl⟩⟩ | ⟨_, _, rfl, ⟨rfl, rfl⟩ | ⟨_, rfl, rfl⟩⟩ | ⟨_, _, _, rfl, ⟨rfl, rfl⟩ | ⟨_, _, _, rfl, rfl⟩⟩ <;> rfl
  have e2 : binOp .neq t u v = (Op.equal t u v >>= fun r => pure (.bool (!r))) := by
    rcases nilOf_inv hu with ⟨_, rfl, ⟨rfl, rfl⟩ | ⟨_, rfl, rfl⟩⟩ | ⟨_, rfl, ⟨_, _, rfl, rfl⟩ | ⟨_, _, _, rfl, rfl⟩⟩ | ⟨_, _, rfl, ⟨rfl, rfl⟩ | ⟨_, rfl, rfl⟩⟩ | ⟨_, _, _, rfl, ⟨rfl, rfl⟩ | ⟨_, _, _, rfl, rfl⟩⟩ <;> rfl
  cases neg
  · show (binOp .eql t u v).run P w = _
    rw [e1]; simp [h]
  · show (binOp .neq t u v).run P w = _
    rw [e2]; simp [h]

theorem ref_sound {ρ : Ren} {B : Nat} {H : AH} {w : World} {e : Env} {a : Act} {fresh : Nat} {o : Oper} {op : BinOp} {t yt : TypeId} {x y : Operand} (ho : o.op = .binOp op t x y yt) (hE : ERel ρ e a) (hops : ∀ x ∈ o.op.operands.toList, okOpd x = true)
    {neg : Bool} (hop : op = if neg then .neq else .eql) {d : TypeDesc} (ht : tyU P t = some d) {i : Ins} (hc : compRef P neg d x y = some i) : ResOK P ρ B H w (execOp a.eval o) fresh (insA P e H fresh i) := by
  have hx : okOpd x = true := hops x (by rw [ho]; simp [Op.operands])
  have hy : okOpd y = true := hops y (by rw [ho]; simp [Op.operands])
  have hvx := evl_rel hE x hx
  have hvy := evl_rel hE y hy
  have hi : i = .ref neg d x y := by
    unfold compRef at hc
    split at hc
    · split at hc
      · split at hc
        · cases hc; rfl
        · cases hc
      · cases hc
    · cases hc; rfl
    · cases hc; rfl
    · cases hc; rfl
    · cases hc
  subst hi
  have fin : ∀ (r s b : Bool), nilOf d (evl e x) = some r → nilOf d (evl e y) = some s → (Op.equal t (a.eval x) (a.eval y)).run P w = .ok b w → ResOK P ρ B H w (execOp a.eval o) fresh (val (.bool (b != neg))) := by
    intro r s b h1 h2 h3
    refine .val (v' := .bool (b != neg)) ?_ (.flat rfl)
    simp only [execOp, ho]
    simp [eqGuard_ref (nilOf_rel hvx h1), binOp_eq (nilOf_rel hvx h1) h3 neg hop]
  show ResOK P ρ B H w (execOp a.eval o) fresh (refA neg d (evl e x) (evl e y))
  unfold refA
  split
  · rename_i h1 h2
    have := fin true true true h1 h2 (by simpa using equal_nil ht (nilOf_rel hvx h1) (nilOf_rel hvy h2) (.inl rfl) w)
    cases neg <;> exact this
  · rename_i h1 h2
    have := fin true false false h1 h2 (by simpa using equal_nil ht (nilOf_rel hvx h1) (nilOf_rel hvy h2) (.inl rfl) w)
    cases neg <;> exact this
  · rename_i h1 h2
    have := fin false true false h1 h2 (by simpa using equal_nil ht (nilOf_rel hvx h1) (nilOf_rel hvy h2) (.inr rfl) w)
    cases neg <;> exact this
  · rename_i h1 h2
    cases hsp : samePtr (evl e x) (evl e y) with
    | false => rw [cond_false]; trivial
    | true =>
      rw [cond_true]
      unfold samePtr at hsp
      split at hsp
      · rename_i p q e1 e2
        simp only [Bool.and_eq_true, Nat.beq_eq] at hsp
        rw [e1] at h1 hvx
        rw [e2] at h2 hvy
        obtain ⟨l1, g1, g2⟩ := hvx.ptr_inv
        obtain ⟨l2, g3, g4⟩ := hvy.ptr_inv
        have hl : l1 = l2 := by rw [hsp.1, hsp.2.2, g3] at g1; exact (Option.some.inj g1).symm
        subst hl
        have hd : ∃ elem, d = .pointer elem := by
          unfold nilOf at h1
          split at h1 <;> first | exact ⟨_, rfl⟩ | (rename_i hq; cases hq) | cases h1
        obtain ⟨elem, rfl⟩ := hd
        have hsz : ∃ ti, tyInfo P elem = some ti ∧ 0 < ti.size := by
          unfold compRef at hc
          simp only at hc
          split at hc
          · rename_i ti hti
            split at hc
            · rename_i hlt; exact ⟨ti, hti, by simpa using hlt⟩
            · cases hc
          · cases hc
        obtain ⟨ti, hti, hlt⟩ := hsz
        have := fin false false true (by rw [e1]; exact h1) (by rw [e2]; exact h2) (by rw [g2, g4, hsp.2.1]; exact equal_ptr ht hti hlt _ w)
        cases neg <;> exact this
      · cases hsp
  · trivial

/- ADDRESSES -/

theorem nilc_sound {ρ : Ren} {B : Nat} {H : AH} {w : World} {e : Env} {a : Act} {fresh : Nat} (hE : ERel ρ e a) {x : Operand} (hx : okOpd x = true) {o : Oper} (ho : o.op = .nilCheck x) :
    ResOK P ρ B H w (execOp a.eval o) fresh (nilcA (evl e x)) := by
  have h := evl_rel hE x hx
  unfold nilcA
  split
  · rename_i p h0
    rw [h0] at h
    obtain ⟨l, g1, g2⟩ := h.ptr_inv
    refine .val (v' := a.eval x) ?_ h
    simp only [execOp, ho, g2]
    rfl
  · trivial

theorem faddr_sound {ρ : Ren} {B : Nat} {H : AH} {w : World} {e : Env} {a : Act} {fresh : Nat} (hE : ERel ρ e a) {x : Operand} (hx : okOpd x = true) {s : TypeId} {f : Nat} {i : Ins} (hc : compFaddr P s x f = some i) :
    ResOK P ρ B H w (vNext (Instr.fieldAt s (a.eval x) f)) fresh (insA P e H fresh i) := by
  have h := evl_rel hE x hx
  unfold compFaddr at hc
  split at hc
  · rename_i fields h1
    split at hc
    · rename_i fd h2
      split at hc
      · rename_i ti h3
        split at hc
        · cases hc
        · rename_i h4
          cases hc
          show ResOK P ρ B H w _ fresh (faddrA fd.offset (evl e x))
          unfold faddrA
          split
          · rename_i p h0
            rw [forceN_eq]
            rw [h0] at h
            obtain ⟨l, g1, g2⟩ := h.ptr_inv
            refine .val (v' := .pointer (some ⟨l.block, p.off + fd.offset, none⟩)) ?_ (VR.ptr (a := ⟨p.block, p.off + fd.offset, p.spot⟩) g1)
            have h5 : ¬ ti.size = 0 := by simpa using h4
            have h2' : fields[f]? = some fd := h2
            rw [run_vNext, g2]
            simp [Instr.fieldAt, run_under h1, h2', Instr.sureAddr, fieldPlace, run_size h3, h5, addr_add]
          · trivial
      · cases hc
    · cases hc
  · cases hc

theorem iaddr_sound {ρ : Ren} {B : Nat} {H : AH} {w : World} {e : Env} {a : Act} {fresh : Nat} (hE : ERel ρ e a) {x y : Operand} (hx : okOpd x = true) (hy : okOpd y = true) {t : TypeId} {i : Ins} (hc : compIaddr P t x y = some i) :
    ResOK P ρ B H w (vNext (Instr.indexAt t (a.eval x) (a.eval y))) fresh (insA P e H fresh i) := by
  have h := evl_rel hE x hx
  have hi := evl_rel hE y hy
  unfold compIaddr at hc
  split at hc
  · rename_i len elem h1
    split at hc
    · rename_i ti h2
      cases hc
      show ResOK P ρ B H w _ fresh (iaddrAA len ti.size (evl e x) (evl e y))
      unfold iaddrAA
      split
      · rename_i p n e1 e2
        cases hq : Nat.blt n len with
        | false => rw [cond_false]; trivial
        | true =>
          rw [cond_true, forceN_eq]
          have hlt : n < len := Nat.le_of_ble_eq_true hq
          rw [e1] at h
          obtain ⟨k, e3⟩ := asNat_some e2
          rw [e3] at hi
          obtain ⟨l, g1, g2⟩ := h.ptr_inv
          refine .val (v' := .pointer (some ⟨l.block, p.off + n * ti.size, none⟩)) ?_ (VR.ptr (a := ⟨p.block, p.off + n * ti.size, p.spot⟩) g1)
          rw [run_vNext, g2, hi.int_inv]
          simp [Instr.indexAt, asIntOf, run_under h1, Instr.sureAddr, run_size h2, addr_add]
          intro h9; omega
      · trivial
    · cases hc
  · rename_i elem h1
    split at hc
    · rename_i ti h2
      cases hc
      show ResOK P ρ B H w _ fresh (iaddrSA ti.size (evl e x) (evl e y))
      unfold iaddrSA
      split
      · rename_i p len c n e1 e2
        cases hq : Nat.blt n len with
        | false => rw [cond_false]; trivial
        | true =>
          rw [cond_true, forceN_eq]
          have hlt : n < len := Nat.le_of_ble_eq_true hq
          rw [e1] at h
          obtain ⟨k, e3⟩ := asNat_some e2
          rw [e3] at hi
          obtain ⟨l, g1, g2⟩ := h.slice_inv (.inl (by omega))
          refine .val (v' := .pointer (some ⟨l.block, p.off + n * ti.size, none⟩)) ?_ (VR.ptr (a := ⟨p.block, p.off + n * ti.size, p.spot⟩) g1)
          rw [run_vNext, g2, hi.int_inv]
          simp [Instr.indexAt, asIntOf, run_under h1, run_size h2, addr_add]
          intro h9; omega
      · trivial
    · cases hc
  · cases hc

/- READING -/

theorem load1_run {ρ : Ren} {B : Nat} {H : AH} {w : World} (hR : Rel ρ B H w) {t : TypeId} {d : TypeDesc} (ht : tyU P t = some d) (hd : isAggD d = false) {v v' x : Value} (hv : VR ρ v v') (h : load1A H v = val x) :
    ∃ a x', v' = .pointer (some a) ∧ (loadVar t a).run P w = .ok x' w ∧ VR ρ x x' := by
  unfold load1A at h
  split at h
  · rename_i p
    split at h
    · rename_i b hb
      split at h
      · rename_i y hy
        cases h
        obtain ⟨l, g1, g2⟩ := hv.ptr_inv
        obtain ⟨u, u', h1, h2, h3⟩ := rd_cell hR hb g1 0 (by omega)
        simp only [Nat.add_zero] at h1 h2
        rw [hy] at h1
        cases h1
        refine ⟨_, u', g2, ?_, h3⟩
        simp [loadVar, run_agg ht, hd, h2]
      · cases h
    · cases h
  · cases h

theorem loadN_run {ρ : Ren} {B : Nat} {H : AH} {w : World} (hR : Rel ρ B H w) {t : TypeId} {d : TypeDesc} {i : TypeInfo} (ht : tyU P t = some d) (hi : tyInfo P t = some i) (hd : isAggD d = true) {v v' x : Value} (hv : VR ρ v v') (h : loadNA H i.size v = val x) :
    ∃ a x', v' = .pointer (some a) ∧ (loadVar t a).run P w = .ok x' w ∧ VR ρ x x' := by
  unfold loadNA at h
  split at h
  · rename_i p
    split at h
    · rename_i b hb
      cases h
      obtain ⟨l, g1, g2⟩ := hv.ptr_inv
      obtain ⟨cs, h1, h2⟩ := run_load_row (P := P) hR hb g1
      refine ⟨_, .agg cs, g2, ?_, .agg_mk (by simpa using h2)⟩
      simp [loadVar, run_agg ht, hd, run_size hi, h1]
    · cases h
  · cases h

theorem load1A_cases (H : AH) (v : Value) : load1A H v = .none ∨ ∃ x, load1A H v = val x := by
  unfold load1A
  split
  · split
    · split
      · exact .inr ⟨_, rfl⟩
      · exact .inl rfl
    · exact .inl rfl
  · exact .inl rfl

theorem loadNA_cases (H : AH) (n : Nat) (v : Value) : loadNA H n v = .none ∨ ∃ x, loadNA H n v = val x := by
  unfold loadNA
  split
  · split
    · exact .inr ⟨_, rfl⟩
    · exact .inl rfl
  · exact .inl rfl

theorem load_sound {ρ : Ren} {B : Nat} {H : AH} {w : World} (hR : Rel ρ B H w) {e : Env} {a : Act} {fresh : Nat} (hE : ERel ρ e a) {x : Operand} (hx : okOpd x = true) {t : TypeId} {i : Ins} (hc : compLoad P t x = some i) :
    ResOK P ρ B H w (vNext (Instr.loadAt t (a.eval x))) fresh (insA P e H fresh i) := by
  have h := evl_rel hE x hx
  unfold compLoad at hc
  split at hc
  · rename_i ti d h1 h2
    split at hc
    · rename_i hd
      cases hc
      show ResOK P ρ B H w _ fresh (loadNA H ti.size (evl e x))
      rcases loadNA_cases H ti.size (evl e x) with h0 | ⟨y, h0⟩
      · rw [h0]; trivial
      · rw [h0]
        obtain ⟨p, y', g1, g2, g3⟩ := loadN_run hR h2 h1 hd h h0
        refine .val ?_ g3
        rw [run_vNext, g1]
        simp [Instr.loadAt, Instr.sureAddr, g2]
    · rename_i hd
      cases hc
      show ResOK P ρ B H w _ fresh (load1A H (evl e x))
      rcases load1A_cases H (evl e x) with h0 | ⟨y, h0⟩
      · rw [h0]; trivial
      · rw [h0]
        obtain ⟨p, y', g1, g2, g3⟩ := load1_run hR h2 (by simpa using hd) h h0
        refine .val ?_ g3
        rw [run_vNext, g1]
        simp [Instr.loadAt, Instr.sureAddr, g2]
  · cases hc

end
end Go.Den
