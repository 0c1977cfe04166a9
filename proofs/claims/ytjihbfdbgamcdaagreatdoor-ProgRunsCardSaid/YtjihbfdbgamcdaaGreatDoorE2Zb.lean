/-
  THE ENGINE, part Zb: pointers that pass for untyped ones.
-/
import Derived.Test.YtjihbfdbgamcdaaGreatDoorE2Z
import GoSem.Extern.Table
import Derived.Lib.MakeNoZero
namespace Go.Den
noncomputable section

variable {P : Program}

/- POINTERS -/

theorem same_eq (x : Value) : Extern.AbiNoEscape.same #[x] = pure x := rfl

theorem call_same {c : Call} {f : FuncId} {o : Oper} {a : Act} {x : Operand} (ho : o.op = .call c) (hcal : c.callee = .value (.func f)) (hs : isSame P f = true) (hx : c.args.toList = [x]) (w : World) : (execOp a.eval o).run P w = .ok (.value (a.eval x)) w := by
  unfold isSame at hs
  split at hs
  · rename_i fn hfn
    simp only [Bool.and_eq_true, beq_iff_eq] at hs
    obtain ⟨h1, h2, h3⟩ := hs
    have hb : fn.body = none := by simpa using h1
    have e1 : Extern.findNext fn = none := by
      unfold Extern.findNext
      simp only [h2, h3]
      rfl
    have e2 : Extern.find fn = some Extern.AbiNoEscape.same := by
      unfold Extern.find
      simp only [h2, h3]
      rfl
    have hargs : c.args = #[x] := by
      cases hc : c.args with
      | mk l => rw [hc] at hx; simp at hx; rw [hx]
    have hn : ¬ fn.name = "runtime.NumGoroutine" := by rw [h2]; decide
    generalize hv : a.eval x = v
    simp only [execOp, ho, resolve, hcal, Act.eval, Deferred.ofValue, hargs]
    simp [invoke, callFunc, hfn, hb, h2, e1, e2, mark, Sem.run, same_eq, hv]
  · cases hs

theorem junks_length : ∀ n, (junks n).length = n := by
  intro n
  induction n with
  | zero => rfl
  | succ n ih => show (JK :: junks n).length = n + 1; simp [ih]

theorem junks_get : ∀ (n i : Nat) (v : Value), (junks n)[i]? = some v → v = JK := by
  intro n
  induction n with
  | zero => intro i v h; change ([] : List Value)[i]? = some v at h; simp at h
  | succ n ih =>
    intro i v h
    have e : junks (n + 1) = JK :: junks n := rfl
    rw [e] at h
    cases i with
    | zero => simp at h; exact h.symm
    | succ i => simp at h; exact ih i v h

theorem mkElem_some {f : FuncId} {e : TypeId} (h : mkElem P f = some e) : ∃ (fn : Func) (t : TypeId) (ti : TypeInfo), P.funcs[f]? = some fn ∧ fn.body = none ∧ fn.name = "internal/bytealg.MakeNoZero" ∧ fn.origin = "" ∧ fn.resultTypes = #[t] ∧ tyU P t = some (.slice e) ∧ tyInfo P e = some ti ∧ ti.size = 1 := by
  unfold mkElem at h
  split at h
  · rename_i fn hfn
    cases hq : (fn.body.isNone && (fn.name == "internal/bytealg.MakeNoZero" && fn.origin == "")) with
    | false => rw [hq, cond_false] at h; cases h
    | true =>
      rw [hq, cond_true] at h
      simp only [Bool.and_eq_true, beq_iff_eq] at hq
      obtain ⟨h1, h2, h3⟩ := hq
      split at h
      · rename_i t ht
        split at h
        · rename_i e2 he2
          split at h
          · rename_i ti hti
            cases hz : Nat.beq ti.size 1 with
            | false => rw [hz, cond_false] at h; cases h
            | true =>
              rw [hz, cond_true] at h
              cases h
              exact ⟨fn, t, ti, hfn, by simpa using h1, h2, h3, ht, he2, hti, Nat.eq_of_beq_eq_true hz⟩
          · cases h
        · cases h
      · cases h
  · cases h

theorem call_mk {c : Call} {f : FuncId} {o : Oper} {a : Act} {x : Operand} {fn : Func} {t : TypeId} (ho : o.op = .call c) (hcal : c.callee = .value (.func f)) (hfn : P.funcs[f]? = some fn) (hb : fn.body = none) (h2 : fn.name = "internal/bytealg.MakeNoZero") (h3 : fn.origin = "") (ht : fn.resultTypes = #[t]) (hx : c.args.toList = [x])
    {w w' : World} {v : Value} (hrun : (Extern.BytealgMakeNoZero.makeNoZero fn.params #[t] #[a.eval x]).run P w = .ok v w') : (execOp a.eval o).run P w = .ok (.value v) w' := by
  have e1 : Extern.findNext fn = none := by
    unfold Extern.findNext
    simp only [h2, h3]
    rfl
  have e2 : Extern.find fn = some (Extern.BytealgMakeNoZero.makeNoZero fn.params fn.resultTypes) := by
    unfold Extern.find
    simp only [h2, h3]
    rfl
  have hargs : c.args = #[x] := by
    cases hc : c.args with
    | mk l => rw [hc] at hx; simp at hx; rw [hx]
  generalize hv : a.eval x = u at hrun
  rw [← ht] at hrun
  simp only [execOp, ho, resolve, hcal, Act.eval, Deferred.ofValue, hargs]
  simp [invoke, callFunc, hfn, hb, h2, e1, e2, mark, hv]
  have hmark : Sem.run P (Sem.mark (Mark.extern f) (Sem.pure ())) w = .ok () w := rfl
  rw [hmark]
  simp [hrun]

theorem mknz_sound {ρ : Ren} {B : Nat} {H : AH} {w : World} (hR : Rel ρ B H w) {e : Env} {a : Act} {fresh : Nat} {o : Oper} {c : Call} {f : FuncId} {x : Operand} {elem : TypeId} (ho : o.op = .call c) (hcal : c.callee = .value (.func f)) (he : mkElem P f = some elem) (hx : c.args.toList = [x])
    (hE : ERel ρ e a) (hok : okOpd x = true) : ResOK P ρ B H w (execOp a.eval o) fresh (mknzA H elem (evl e x)) := by
  obtain ⟨fn, t, ti, f1, f2, f3, f4, f5, f6, f7, f8⟩ := mkElem_some he
  have hv := evl_rel hE x hok
  unfold mknzA
  split
  · rename_i n hn
    rw [hn] at hv
    have hv' := hv.of_flat rfl
    cases hq : Nat.ble (n + 1) 1099511627776 with
    | false => rw [cond_false]; trivial
    | true =>
      rw [cond_true]
      have hle := Nat.le_of_ble_eq_true hq
      obtain ⟨cs, h1, h2, _⟩ := Lib.run_makeNoZero (P := P) (w := w) fn.params t elem f6 (n + 1) (by omega)
      have hrun := call_mk (a := a) ho hcal f1 f2 f3 f4 f5 hx (w := w) (by rw [hv']; exact h1)
      unfold freshRow
      cases hk : okKey H.n with
      | false => rw [cond_false]; trivial
      | true =>
        rw [cond_true]
        intro hfree
        have hf : ∀ ver, ρ H.n ver = none := fun ver => hfree H.n ver (Nat.le_refl _) (by rw [AH.push_eq]; exact Nat.lt_succ_self _)
        have hb : ∀ ρ', Sub ρ ρ' → ρ' H.n 0 = some ⟨w.heap.size, cs.size, 1⟩ → BRel ρ' (w.drew.drew.alloc (.cells cs elem)) (.cells { cells := junks (n + 1), elem := elem, esz := 1, lens := [(junks (n + 1)).length], wver := 0, frz := 0, pf := noRefsL (junks (n + 1)) }) 0 ⟨w.heap.size, cs.size, 1⟩ := by
          intro ρ' g1 g2
          refine row_rel (w := w) (arr := cs) (fz := (0, 0)) rfl rfl ?_ ?_ ?_ ?_ rfl
          · intro i v hiv
            have hiv : (junks (n + 1))[i]? = some v := hiv
            have hj := junks_get _ _ _ hiv
            subst hj
            have hi : i < n + 1 := by
              rcases Nat.lt_or_ge i (junks (n + 1)).length with h | h
              · rw [junks_length] at h; exact h
              · rw [List.getElem?_eq_none h] at hiv; cases hiv
            exact ⟨cs[i], Array.getElem?_eq_getElem (by omega), .junk⟩
          · intro h; cases h
          · intro _
            refine ⟨by simp, ?_⟩
            show (junks (n + 1)).length ≤ _
            rw [junks_length]
            exact h2
          · intro i _; simp
        have hwf : ∀ b, ABlk.cells { cells := junks (n + 1), elem := elem, esz := 1, lens := [(junks (n + 1)).length], wver := 0, frz := 0, pf := noRefsL (junks (n + 1)) } = .cells b → b.WF := by
          intro b hb
          cases hb
          exact ⟨by simp, Nat.zero_le _, fun h => h⟩
        obtain ⟨r1, r2⟩ := Ext.push (w' := w.drew.drew.alloc (.cells cs elem)) hR hk rfl rfl hf hb hwf
        refine ⟨_, _, _, _, hrun, rfl, ?_, r1, r2⟩
        have := VR.slice_mk (ρ := ρ.add H.n 0 ⟨w.heap.size, cs.size, 1⟩) (a := ⟨H.n, 0, some 0⟩) (len := n + 1) (c := 0) (Ren.add_self _ _ _ _)
        simpa [capOf] using this
  · trivial

theorem topu_sound {ρ : Ren} {B : Nat} {H : AH} {w : World} (hR : Rel ρ B H w) {e : Env} {a : Act} {fresh : Nat} {o : Oper} {src dst t : TypeId} {x : Operand} {ti : TypeInfo} (ho : o.op = .convert src dst x) (hs : tyU P src = some (.pointer t)) (hd : tyU P dst = some .unsafePointer) (ht : tyInfo P t = some ti) (hz : 0 < ti.size)
    (hE : ERel ρ e a) (hk : opKind o.op = true) (hops : ∀ x ∈ o.op.operands.toList, okOpd x = true) : ResOK P ρ B H w (execOp a.eval o) fresh (topuA P e H (evl e x) o) := by
  have hx : okOpd x = true := hops x (by rw [ho]; simp [Op.operands])
  have hv := evl_rel hE x hx
  have hex : execOp a.eval o = vNext (convert src dst (a.eval x)) := by simp only [execOp, ho, vNext]
  unfold topuA
  split
  · rename_i p h0
    rw [h0] at hv
    split
    · rename_i b hb
      obtain ⟨l, g1, g2⟩ := hv.ptr_inv
      have hC := rd_rel hR hb g1
      obtain ⟨r1, r2, r3, r4⟩ := rdBlk_some hb
      have hlen := rd_len hR hb
      obtain ⟨N, s1, s2, s3, s4⟩ := hC.shape
      have hN : p.off < N := by
        by_cases hq : b.lens = []
        · have := s2 hq; omega
        · have := (s3 hq).2; omega
      rw [hex]
      refine .val (v' := .pointer (some ⟨l.block, p.off, none⟩)) ?_ (VR.ptr g1)
      rw [run_vNext, g2]
      have hview : (viewAt l.block).run P w = .ok none w := by simp [viewAt, shape, Sem.run, s1]
      have hcin : (cellsIn l.block).run P w = .ok (some N) w := by simp [cellsIn, shape, Sem.run, s1]
      have hsz : ¬ ti.size = 0 := by omega
      have hoff : ¬ p.off ≥ N := by omega
      have : (convert src dst (.pointer (some ⟨l.block, p.off, none⟩))).run P w = .ok (.pointer (some ⟨l.block, p.off, none⟩)) w := by
        simp [convert, Sem.run_bind, run_under hs, run_under hd, Conv.unsafePointer, Conv.seenAt, hview, hcin, run_size ht, hsz, hoff]
      rw [this]
      rfl
    · trivial
  · exact gen_sound hk hE hops

theorem frpu_sound {ρ : Ren} {B : Nat} {H : AH} {w : World} (hR : Rel ρ B H w) {e : Env} {a : Act} {fresh : Nat} {o : Oper} {src dst u : TypeId} {x : Operand} (ho : o.op = .convert src dst x) (hs : tyU P src = some .unsafePointer) (hd : tyU P dst = some (.pointer u)) {ti : TypeInfo} (ht : tyInfo P u = some ti)
    (hE : ERel ρ e a) (hk : opKind o.op = true) (hops : ∀ x ∈ o.op.operands.toList, okOpd x = true) : ResOK P ρ B H w (execOp a.eval o) fresh (frpuA P e H u (evl e x) o) := by
  have hx : okOpd x = true := hops x (by rw [ho]; simp [Op.operands])
  have hv := evl_rel hE x hx
  have hex : execOp a.eval o = vNext (convert src dst (a.eval x)) := by simp only [execOp, ho, vNext]
  unfold frpuA
  split
  · rename_i p h0
    rw [h0] at hv
    split
    · rename_i b hb
      cases hq : rowOk P b p.off u with
      | false => rw [cond_false]; trivial
      | true =>
        rw [cond_true]
        unfold rowOk at hq
        split at hq
        · rename_i hl
          obtain ⟨l, g1, g2⟩ := hv.ptr_inv
          have hC := rd_rel hR hb g1
          obtain ⟨N, s1, s2, s3, s4⟩ := hC.shape
          rw [← s2 hl] at hq
          rw [hex]
          refine .val (v' := .pointer (some ⟨l.block, p.off, none⟩)) ?_ (VR.ptr g1)
          rw [run_vNext, g2]
          have hview : (viewAt l.block).run P w = .ok none w := by simp [viewAt, shape, Sem.run, s1]
          have hvar : (variablesAt ⟨l.block, p.off, none⟩ u 1).run P w = .ok true w := by simp [variablesAt, program, shape, Sem.run, s1, hq]
          have : (convert src dst (.pointer (some ⟨l.block, p.off, none⟩))).run P w = .ok (.pointer (some ⟨l.block, p.off, none⟩)) w := by
            by_cases hzz : ti.size = 0 <;> simp [convert, Sem.run_bind, run_under hs, run_under hd, Conv.unsafePointer, Conv.seenAt, hview, hvar, run_size ht, hzz]
          rw [this]
          rfl
        · cases hq
    · trivial
  · exact gen_sound hk hE hops

theorem asPtr_some {d : TypeDesc} {t : TypeId} (h : asPtr d = some t) : d = .pointer t := by
  cases d <;> simp [asPtr] at h
  rw [h]

theorem isUns_true {d : TypeDesc} (h : isUns d = true) : d = .unsafePointer := by
  cases d <;> first | rfl | simp [isUns] at h

theorem ptr_sound {ρ : Ren} {B : Nat} {H : AH} {w : World} (hR : Rel ρ B H w) {e : Env} {a : Act} {fresh : Nat} {o : Oper} {src dst : TypeId} {sd dd : TypeDesc} {x : Operand} {i : Ins} (ho : o.op = .convert src dst x) (hs : tyU P src = some sd) (hd : tyU P dst = some dd)
    (hE : ERel ρ e a) (hk : opKind o.op = true) (hops : ∀ x ∈ o.op.operands.toList, okOpd x = true) (hc : compPtr P sd dd x o = some i) : ResOK P ρ B H w (execOp a.eval o) fresh (insA P e H fresh i) := by
  unfold compPtr at hc
  split at hc
  · rename_i t ht
    split at hc
    · rename_i hu
      unfold compTo at hc
      split at hc
      · rename_i ti h3
        split at hc
        · rename_i h4
          cases hc
          exact topu_sound hR ho (by rw [hs, asPtr_some ht]) (by rw [hd, isUns_true hu]) h3 (by simpa using h4) hE hk hops
        · cases hc
      · cases hc
    · cases hc; exact gen_sound hk hE hops
  · split at hc
    · rename_i hu
      split at hc
      · rename_i u hu2
        unfold compFrom at hc
        split at hc
        · rename_i ti h3
          cases hc
          exact frpu_sound hR ho (by rw [hs, isUns_true hu]) (by rw [hd, asPtr_some hu2]) h3 hE hk hops
        · cases hc
      · cases hc; exact gen_sound hk hE hops
    · cases hc; exact gen_sound hk hE hops

end
end Go.Den
