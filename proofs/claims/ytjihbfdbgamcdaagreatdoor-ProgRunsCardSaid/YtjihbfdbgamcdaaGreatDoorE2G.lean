/-
  THE ENGINE, part G: each ready operation does what the machine's does (first half).
-/
import Derived.Test.YtjihbfdbgamcdaaGreatDoorE2F
namespace Go.Den
noncomputable section

variable {P : Program}

theorem run_info {t : TypeId} {i : TypeInfo} (h : tyInfo P t = some i) (w : World) : (typeInfo t).run P w = .ok i w := by
  unfold tyInfo at h
  simp [typeInfo, h]

theorem run_under {t : TypeId} {d : TypeDesc} (h : tyU P t = some d) (w : World) : (underlying t).run P w = .ok d w := by
  unfold tyU at h
  simp [underlying, h]

theorem run_size {t : TypeId} {i : TypeInfo} (h : tyInfo P t = some i) (w : World) : (sizeOf t).run P w = .ok i.size w := by
  simp [sizeOf, run_info h]

theorem run_agg {t : TypeId} {d : TypeDesc} (h : tyU P t = some d) (w : World) : (isAgg t).run P w = .ok (isAggD d) w := by
  simp only [isAgg, Sem.run_bind, run_under h, Result.andThen_ok]
  cases d <;> rfl

theorem zeroFlat_some {i : TypeInfo} {z : Value} (h : zeroFlat i = some z) : i.zero = some z ∧ flat z = true := by
  unfold zeroFlat at h
  split at h
  · split at h
    · rename_i z' h1 h2; cases h; exact ⟨h1, h2⟩
    · cases h
  · cases h

theorem run_zero {t : TypeId} {i : TypeInfo} (h : tyInfo P t = some i) {z : Value} (hz : i.zero = some z) (w : World) : (zeroValue t).run P w = .ok z w := by
  simp [zeroValue, run_info h, hz]

def outOf : Next → Option Value
  | .value v => some v
  | .skip => some undef
  | _ => none

/-- What a ready operation's answer says of the machine's. -/
def ResOK (P : Program) (ρ : Ren) (B : Nat) (H : AH) (w : World) (s : Sem Next) (fresh : Nat) : ARes → Prop
  | .none => True
  | .simple v none => ∃ v', s.run P w = .ok (.value v') w ∧ VR ρ v v'
  | .simple v (some b) => ∃ v' w' obj l, s.run P w = .ok (.value v') w' ∧ w'.heap = w.heap.push obj ∧ (w'.os = w.os ∧ w'.output = w.output) ∧ l.block = w.heap.size ∧
      (∀ ρ', Sub ρ ρ' → ρ' fresh 0 = some l → VR ρ' v v' ∧ BRel ρ' w' b 0 l) ∧ (∀ c, b = .cells c → c.WF)
  | .eff v H' => Free ρ H.n H'.n → ∃ nx v' w' ρ', s.run P w = .ok nx w' ∧ outOf nx = some v' ∧ VR ρ' v v' ∧ Rel ρ' B H' w' ∧ Ext ρ H w ρ' H' w'
  | .call f args => ∃ args', s.run P w = .ok (.enter f args') w ∧ VRL ρ args args'.toList

theorem ResOK.val {ρ : Ren} {B : Nat} {H : AH} {w : World} {s : Sem Next} {fresh : Nat} {v v' : Value} (h : s.run P w = .ok (.value v') w) (hv : VR ρ v v') : ResOK P ρ B H w s fresh (Go.Den.val v) :=
  ⟨v', h, hv⟩

def vNext (s : Sem Value) : Sem Next := do pure (.value (← s))

theorem run_vNext (s : Sem Value) (w : World) : (vNext s).run P w = (s.run P w).andThen fun v w' => .ok (.value v) w' := by
  simp [vNext]

theorem list_all {α : Type} {p : α → Bool} {l : List α} (h : l.all p = true) : ∀ x ∈ l, p x = true := by simpa using h

/- BY THE MACHINE ITSELF -/

theorem gen_sound {ρ : Ren} {B : Nat} {H : AH} {w : World} {e : Env} {a : Act} {fresh : Nat} {o : Oper} (hk : opKind o.op = true) (hE : ERel ρ e a) (hops : ∀ x ∈ o.op.operands.toList, okOpd x = true) :
    ResOK P ρ B H w (execOp a.eval o) fresh (genA P e o) := by
  unfold genA
  cases hf : (o.op.operands.toList.all fun x => flat (evl e x)) with
  | false => rw [cond_false]; trivial
  | true =>
    rw [cond_true]
    have he : execOp a.eval o = execOp (evl e) o := execOp_congr o hk fun x hx => (evl_rel hE x (hops x hx)).of_flat (list_all hf x hx)
    rw [he]
    split
    · rename_i v hv
      cases hfv : flat v with
      | false => rw [cond_false]; trivial
      | true => rw [cond_true]; exact .val (pureRun_run _ _ hv w) (.flat hfv)
    · trivial

/- VALUES -/

theorem mv_sound {ρ : Ren} {B : Nat} {H : AH} {w : World} {e : Env} {a : Act} {fresh : Nat} (hE : ERel ρ e a) {x : Operand} (hx : okOpd x = true) {s : Sem Next} (hs : s.run P w = .ok (.value (a.eval x)) w) :
    ResOK P ρ B H w s fresh (val (evl e x)) := .val hs (evl_rel hE x hx)

theorem pick_sound {ρ : Ren} {B : Nat} {H : AH} {w : World} {e : Env} {a : Act} {fresh : Nat} (hE : ERel ρ e a) {c x y : Operand} (hc : okOpd c = true) (hx : okOpd x = true) (hy : okOpd y = true) :
    ResOK P ρ B H w (do pure (.value (if ← asBool (a.eval c) then a.eval x else a.eval y))) fresh (pickA (evl e x) (evl e y) (evl e c)) := by
  have h := evl_rel hE c hc
  unfold pickA
  split
  · rename_i h0
    rw [h0] at h
    rw [h.bool_inv]
    exact .val (by simp [asBool]) (evl_rel hE x hx)
  · rename_i h0
    rw [h0] at h
    rw [h.bool_inv]
    exact .val (by simp [asBool]) (evl_rel hE y hy)
  · trivial

theorem ext_sound {ρ : Ren} {B : Nat} {H : AH} {w : World} {e : Env} {a : Act} {fresh : Nat} (hE : ERel ρ e a) {x : Operand} {i : Nat} (hx : okOpd x = true) :
    ResOK P ρ B H w (vNext (Instr.extract (a.eval x) i)) fresh (extA i (evl e x)) := by
  have h := evl_rel hE x hx
  unfold extA
  split
  · rename_i vs h0
    rw [h0] at h
    obtain ⟨vs', h1, h2⟩ := h.tuple_inv
    split
    · rename_i v hv
      obtain ⟨v', e1, e2⟩ := h2.get hv
      refine .val ?_ e2
      have : vs'[i]? = some v' := by simpa using e1
      rw [run_vNext, h1]
      simp [Instr.extract, this]
    · trivial
  · trivial

theorem iface_sound {ρ : Ren} {B : Nat} {H : AH} {w : World} {e : Env} {a : Act} {fresh : Nat} (hE : ERel ρ e a) {x : Operand} {t : TypeId} {d : TypeDesc} (hx : okOpd x = true) (ht : tyU P t = some d) (hd : ∀ ms, d ≠ .interface ms) :
    ResOK P ρ B H w (vNext (Instr.makeInterface t (a.eval x))) fresh (val (.iface t (evl e x))) := by
  refine .val (v' := .iface t (a.eval x)) ?_ (.iface (evl_rel hE x hx))
  rw [run_vNext]
  simp only [Instr.makeInterface, Sem.run_bind, run_under ht, Result.andThen_ok]
  cases d with
  | interface ms => exact absurd rfl (hd ms)
  | _ => rfl

theorem evls_arr {ρ : Ren} {e : Env} {a : Act} (hE : ERel ρ e a) (l : Array Operand) (hl : ∀ x ∈ l.toList, okOpd x = true) : VRL ρ (evls e l.toList).toArray.toList (l.map a.eval).toList := by
  have := evls_rel hE l.toList hl
  simpa using this

theorem mkfn_sound {ρ : Ren} {B : Nat} {H : AH} {w : World} {e : Env} {a : Act} {fresh : Nat} (hE : ERel ρ e a) {fn : Fn} {f c : Array Operand} (hf : ∀ x ∈ f.toList, okOpd x = true) (hc : ∀ x ∈ c.toList, okOpd x = true) (hn : fnFlat fn = true) :
    ResOK P ρ B H w (vNext (Instr.makeFunc fn (f.map a.eval) (c.map a.eval))) fresh (val (.func fn (evls e f.toList).toArray (evls e c.toList).toArray)) := by
  refine .val (v' := .func fn (f.map a.eval) (c.map a.eval)) ?_ (.func_mk hn (evls_arr hE f hf) (evls_arr hE c hc))
  rw [run_vNext]
  simp [Instr.makeFunc]

theorem part1_run {w : World} {t : TypeId} {d : TypeDesc} (ht : tyU P t = some d) (hd : isAggD d = false) (cs : Array Value) (off : Nat) {v : Value} (h : cs.toList[off]? = some v) : (part t cs off).run P w = .ok v w := by
  have h' : cs[off]? = some v := by simpa using h
  simp only [part, Sem.run_bind, run_agg ht, Result.andThen_ok, hd, Bool.false_eq_true, if_false, h']
  rfl

theorem partN_run {w : World} {t : TypeId} {d : TypeDesc} {i : TypeInfo} (ht : tyU P t = some d) (hi : tyInfo P t = some i) (hd : isAggD d = true) (cs : Array Value) (off : Nat) : (part t cs off).run P w = .ok (.agg (cs.extract off (off + i.size))) w := by
  simp only [part, Sem.run_bind, run_agg ht, Result.andThen_ok, hd, if_true, run_size hi]
  rfl

theorem extract_rel {ρ : Ren} {cs cs' : Array Value} (h : VRL ρ cs.toList cs'.toList) (off size : Nat) : VRL ρ (slotsOf cs.toList off size) (cs'.extract off (off + size)).toList := by
  have e : (cs'.extract off (off + size)).toList = (cs'.toList.drop off).take size := by
    rw [Array.toList_extract, List.extract_eq_take_drop]
    simp
  rw [e]
  exact (h.drop off).take size

theorem fld1_sound {ρ : Ren} {B : Nat} {H : AH} {w : World} {v v' : Value} (hv : VR ρ v v') {fresh : Nat} {t : TypeId} {d : TypeDesc} (ht : tyU P t = some d) (hd : isAggD d = false) (off : Nat) :
    ResOK P ρ B H w (vNext (do part t (← asAgg v') off)) fresh (fld1A off v) := by
  unfold fld1A
  split
  · obtain ⟨cs', rfl, h2⟩ := hv.agg_inv
    unfold valO
    split
    · rename_i x hx
      obtain ⟨x', e1, e2⟩ := h2.get hx
      refine .val ?_ e2
      rw [run_vNext]
      simp [asAgg, part1_run ht hd cs' off e1]
    · trivial
  · trivial

theorem fldN_sound {ρ : Ren} {B : Nat} {H : AH} {w : World} {v v' : Value} (hv : VR ρ v v') {fresh : Nat} {t : TypeId} {d : TypeDesc} {i : TypeInfo} (ht : tyU P t = some d) (hi : tyInfo P t = some i) (hd : isAggD d = true) (off : Nat) :
    ResOK P ρ B H w (vNext (do part t (← asAgg v') off)) fresh (fldNA off i.size v) := by
  unfold fldNA
  split
  · rename_i cs
    obtain ⟨cs', rfl, h2⟩ := hv.agg_inv
    cases hq : Nat.ble (off + i.size) cs.toList.length with
    | false => rw [cond_false]; trivial
    | true =>
      rw [cond_true]
      refine .val (v' := .agg (cs'.extract off (off + i.size))) ?_ (.agg_mk ?_)
      · rw [run_vNext]
        simp [asAgg, partN_run ht hi hd cs' off]
      · exact extract_rel h2 off i.size
  · trivial

end
end Go.Den
