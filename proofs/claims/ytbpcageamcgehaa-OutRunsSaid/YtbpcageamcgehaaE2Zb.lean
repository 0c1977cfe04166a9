/-
  THE ENGINE, part Zb: pointers that pass for untyped ones.
-/
import Derived.Test.YtbpcageamcgehaaE2Z
import GoSem.Extern.Table
namespace Go.Den
noncomputable section

variable {P : Program}

/- POINTERS -/

theorem same_eq (x : Value) : Extern.AbiNoEscape.same #[x] = pure x := rfl

theorem call_same {c : Call} {f : FuncId} {o : Oper} {a : Act} {x : Operand} (ho : o.op = .call c) (hcal : c.callee = .value (.func f)) (hs : isSame P f = true) (hx : c.args.toList = [x]) (w : World) : (execOp a.eval o).run P w = .ok (.value (a.eval x)) w := by
  unfold isSame at hs
  split at hs
  · rename_i fn hfn
    simp only [Bool.and_eq_true, beq_iff_eq] at hs
    obtain ⟨h1, h2, h3⟩ := hs
    have hb : fn.body = none := by simpa using h1
    have e1 : Extern.findNext fn = none := by
      unfold Extern.findNext
      simp only [h2, h3]
      rfl
    have e2 : Extern.find fn = some Extern.AbiNoEscape.same := by
      unfold Extern.find
      simp only [h2, h3]
      rfl
    have hargs : c.args = #[x] := by
      cases hc : c.args with
      | mk l => rw [hc] at hx; simp at hx; rw [hx]
    have hn : ¬ fn.name = "runtime.NumGoroutine" := by rw [h2]; decide
    generalize hv : a.eval x = v
    simp only [execOp, ho, resolve, hcal, Act.eval, Deferred.ofValue, hargs]
    simp [invoke, callFunc, hfn, hb, h2, e1, e2, mark, Sem.run, same_eq, hv]
  · cases hs

theorem topu_sound {ρ : Ren} {B : Nat} {H : AH} {w : World} (hR : Rel ρ B H w) {e : Env} {a : Act} {fresh : Nat} {o : Oper} {src dst t : TypeId} {x : Operand} {ti : TypeInfo} (ho : o.op = .convert src dst x) (hs : tyU P src = some (.pointer t)) (hd : tyU P dst = some .unsafePointer) (ht : tyInfo P t = some ti) (hz : 0 < ti.size)
    (hE : ERel ρ e a) (hk : opKind o.op = true) (hops : ∀ x ∈ o.op.operands.toList, okOpd x = true) : ResOK P ρ B H w (execOp a.eval o) fresh (topuA P e H (evl e x) o) := by
  have hx : okOpd x = true := hops x (by rw [ho]; simp [Op.operands])
  have hv := evl_rel hE x hx
  have hex : execOp a.eval o = vNext (convert src dst (a.eval x)) := by simp only [execOp, ho, vNext]
  unfold topuA
  split
  · rename_i p h0
    rw [h0] at hv
    split
    · rename_i b hb
      obtain ⟨l, g1, g2⟩ := hv.ptr_inv
      have hC := rd_rel hR hb g1
      obtain ⟨r1, r2, r3, r4⟩ := rdBlk_some hb
      have hlen := rd_len hR hb
      obtain ⟨N, s1, s2, s3, s4⟩ := hC.shape
      have hN : p.off < N := by
        by_cases hq : b.lens = []
        · have := s2 hq; omega
        · have := (s3 hq).2; omega
      rw [hex]
      refine .val (v' := .pointer (some ⟨l.block, p.off, none⟩)) ?_ (VR.ptr g1)
      rw [run_vNext, g2]
      have hview : (viewAt l.block).run P w = .ok none w := by simp [viewAt, shape, Sem.run, s1]
      have hcin : (cellsIn l.block).run P w = .ok (some N) w := by simp [cellsIn, shape, Sem.run, s1]
      have hsz : ¬ ti.size = 0 := by omega
      have hoff : ¬ p.off ≥ N := by omega
      have : (convert src dst (.pointer (some ⟨l.block, p.off, none⟩))).run P w = .ok (.pointer (some ⟨l.block, p.off, none⟩)) w := by
        simp [convert, Sem.run_bind, run_under hs, run_under hd, Conv.unsafePointer, Conv.seenAt, hview, hcin, run_size ht, hsz, hoff]
      rw [this]
      rfl
    · trivial
  · exact gen_sound hk hE hops

theorem frpu_sound {ρ : Ren} {B : Nat} {H : AH} {w : World} (hR : Rel ρ B H w) {e : Env} {a : Act} {fresh : Nat} {o : Oper} {src dst u : TypeId} {x : Operand} (ho : o.op = .convert src dst x) (hs : tyU P src = some .unsafePointer) (hd : tyU P dst = some (.pointer u)) {ti : TypeInfo} (ht : tyInfo P u = some ti)
    (hE : ERel ρ e a) (hk : opKind o.op = true) (hops : ∀ x ∈ o.op.operands.toList, okOpd x = true) : ResOK P ρ B H w (execOp a.eval o) fresh (frpuA P e H u (evl e x) o) := by
  have hx : okOpd x = true := hops x (by rw [ho]; simp [Op.operands])
  have hv := evl_rel hE x hx
  have hex : execOp a.eval o = vNext (convert src dst (a.eval x)) := by simp only [execOp, ho, vNext]
  unfold frpuA
  split
  · rename_i p h0
    rw [h0] at hv
    split
    · rename_i b hb
      cases hq : rowOk P b p.off u with
      | false => rw [cond_false]; trivial
      | true =>
        rw [cond_true]
        unfold rowOk at hq
        split at hq
        · rename_i hl
          obtain ⟨l, g1, g2⟩ := hv.ptr_inv
          have hC := rd_rel hR hb g1
          obtain ⟨N, s1, s2, s3, s4⟩ := hC.shape
          rw [← s2 hl] at hq
          rw [hex]
          refine .val (v' := .pointer (some ⟨l.block, p.off, none⟩)) ?_ (VR.ptr g1)
          rw [run_vNext, g2]
          have hview : (viewAt l.block).run P w = .ok none w := by simp [viewAt, shape, Sem.run, s1]
          have hvar : (variablesAt ⟨l.block, p.off, none⟩ u 1).run P w = .ok true w := by simp [variablesAt, program, shape, Sem.run, s1, hq]
          have : (convert src dst (.pointer (some ⟨l.block, p.off, none⟩))).run P w = .ok (.pointer (some ⟨l.block, p.off, none⟩)) w := by
            by_cases hzz : ti.size = 0 <;> simp [convert, Sem.run_bind, run_under hs, run_under hd, Conv.unsafePointer, Conv.seenAt, hview, hvar, run_size ht, hzz]
          rw [this]
          rfl
        · cases hq
    · trivial
  · exact gen_sound hk hE hops

theorem asPtr_some {d : TypeDesc} {t : TypeId} (h : asPtr d = some t) : d = .pointer t := by
  cases d <;> simp [asPtr] at h
  rw [h]

theorem isUns_true {d : TypeDesc} (h : isUns d = true) : d = .unsafePointer := by
  cases d <;> first | rfl | simp [isUns] at h

theorem ptr_sound {ρ : Ren} {B : Nat} {H : AH} {w : World} (hR : Rel ρ B H w) {e : Env} {a : Act} {fresh : Nat} {o : Oper} {src dst : TypeId} {sd dd : TypeDesc} {x : Operand} {i : Ins} (ho : o.op = .convert src dst x) (hs : tyU P src = some sd) (hd : tyU P dst = some dd)
    (hE : ERel ρ e a) (hk : opKind o.op = true) (hops : ∀ x ∈ o.op.operands.toList, okOpd x = true) (hc : compPtr P sd dd x o = some i) : ResOK P ρ B H w (execOp a.eval o) fresh (insA P e H fresh i) := by
  unfold compPtr at hc
  split at hc
  · rename_i t ht
    split at hc
    · rename_i hu
      unfold compTo at hc
      split at hc
      · rename_i ti h3
        split at hc
        · rename_i h4
          cases hc
          exact topu_sound hR ho (by rw [hs, asPtr_some ht]) (by rw [hd, isUns_true hu]) h3 (by simpa using h4) hE hk hops
        · cases hc
      · cases hc
    · cases hc; exact gen_sound hk hE hops
  · split at hc
    · rename_i hu
      split at hc
      · rename_i u hu2
        unfold compFrom at hc
        split at hc
        · rename_i ti h3
          cases hc
          exact frpu_sound hR ho (by rw [hs, isUns_true hu]) (by rw [hd, asPtr_some hu2]) h3 hE hk hops
        · cases hc
      · cases hc; exact gen_sound hk hE hops
    · cases hc; exact gen_sound hk hE hops

end
end Go.Den
