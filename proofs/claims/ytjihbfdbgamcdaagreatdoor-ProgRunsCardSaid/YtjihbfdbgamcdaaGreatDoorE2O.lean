/-
  THE ENGINE, part O: every ready operation does what the machine's does.
-/
import Derived.Test.YtjihbfdbgamcdaaGreatDoorE2Zb
namespace Go.Den
noncomputable section

variable {P : Program}

theorem callFunc_run {g : FuncId} (h : hasBody P g = true) (args : Array Value) (w : World) : (callFunc g args).run P w = .ok (.enter g args) w := by
  unfold hasBody at h
  split at h
  · rename_i fn hfn
    simp only [Bool.and_eq_true, Bool.not_eq_true', Option.isSome_iff_exists] at h
    obtain ⟨⟨b, hb⟩, hn⟩ := h
    have hn' : ¬ fn.name = "runtime.NumGoroutine" := by simpa using hn
    simp [callFunc, hfn, hb, hn']
  · cases h

theorem call_sound {ρ : Ren} {B : Nat} {H : AH} {w : World} {e : Env} {a : Act} {fresh : Nat} (hE : ERel ρ e a) {o : Oper} {c : Call} {f : FuncId} (ho : o.op = .call c) (hcal : c.callee = .value (.func f)) (hops : ∀ x ∈ o.op.operands.toList, okOpd x = true) (hb : hasBody P f = true) :
    ResOK P ρ B H w (execOp a.eval o) fresh (.call f (evls e c.args.toList)) := by
  have hargs : ∀ x ∈ c.args.toList, okOpd x = true := fun x hx => hops x (by rw [ho]; simp only [Op.operands, Call.operands, Array.toList_append, List.mem_append]; exact .inr hx)
  refine ⟨c.args.map a.eval, ?_, by simpa using evls_rel hE c.args.toList hargs⟩
  simp only [execOp, ho, resolve, hcal, Act.eval, Deferred.ofValue]
  simp [invoke, callFunc_run hb]

theorem dyn_sound {ρ : Ren} {B : Nat} {H : AH} {w : World} {e : Env} {a : Act} {fresh : Nat} (hE : ERel ρ e a) {o : Oper} {c : Call} {f : Operand} (ho : o.op = .call c) (hcal : c.callee = .value f) (hops : ∀ x ∈ o.op.operands.toList, okOpd x = true) :
    ResOK P ρ B H w (execOp a.eval o) fresh (dynA P (evl e f) (evls e c.args.toList)) := by
  have hargs : ∀ x ∈ c.args.toList, okOpd x = true := fun x hx => hops x (by rw [ho]; simp only [Op.operands, Call.operands, Array.toList_append, List.mem_append]; exact .inr hx)
  have hf : okOpd f = true := hops f (by rw [ho]; simp [Op.operands, Call.operands, hcal])
  have hv := evl_rel hE f hf
  unfold dynA
  split
  · rename_i g first captured h0
    rw [h0] at hv
    cases hq : hasBody P g with
    | false => rw [cond_false]; trivial
    | true =>
      rw [cond_true]
      obtain ⟨f', c', h1, h2, h3, h4⟩ := hv.func_inv rfl
      refine ⟨f' ++ c.args.map a.eval ++ c', ?_, ?_⟩
      · simp only [execOp, ho, resolve, hcal, h1, Deferred.ofValue]
        simp [invoke, callFunc_run hq]
      · have := (h3.append (evls_rel hE c.args.toList hargs)).append h4
        simpa using this
  · trivial

theorem isSliceT_some {t : Option TypeId} {el : TypeId} (h : isSliceT P t = some el) : ∃ st, t = some st ∧ tyU P st = some (.slice el) := by
  unfold isSliceT at h
  split at h
  · split at h
    · rename_i h1; cases h; exact ⟨_, rfl, h1⟩
    · cases h
  · cases h

theorem isDel_true {b : Builtin} (h : isDel b = true) : b = .delete := by
  cases b <;> first | rfl | simp [isDel] at h
theorem isUstr_true {b : Builtin} (h : isUstr b = true) : b = .unsafeString := by
  cases b <;> first | rfl | simp [isUstr] at h

theorem builtin_sound {ρ : Ren} {B : Nat} {H : AH} {w : World} (hR : Rel ρ B H w) {e : Env} {a : Act} {fresh : Nat} (hE : ERel ρ e a) {o : Oper} {c : Call} {b : Builtin} (ho : o.op = .call c) (hcal : c.callee = .builtin b) (hk : opKind o.op = true) (hops : ∀ x ∈ o.op.operands.toList, okOpd x = true)
    {i : Ins} (hc : compBuiltin P b c.args.toList c.argTypes o = some i) : ResOK P ρ B H w (execOp a.eval o) fresh (insA P e H fresh i) := by
  have hargs : ∀ x ∈ c.args.toList, okOpd x = true := fun x hx => hops x (by rw [ho]; simp only [Op.operands, Call.operands, Array.toList_append, List.mem_append]; exact .inr hx)
  unfold compBuiltin at hc
  split at hc
  · rename_i x hx
    split at hc
    · rename_i el hd; cases hc; exact len_sound ho hcal hx hd hE hk hops
    · rename_i kt el hd; cases hc; exact lenM_sound hR ho hcal hx hd hE hk hops
    · cases hc; exact gen_sound hk hE hops
    · cases hc
  · rename_i x hx
    split at hc
    · rename_i el hd; cases hc; exact cap_sound ho hcal hx hd hE hops
    · cases hc
  · rename_i s x hx
    split at hc
    · rename_i elem hd
      split at hc
      · rename_i ti d h1 h2
        split at hc
        · rename_i h3
          cases hc
          simp only [appOk, Bool.and_eq_true, Nat.blt_eq] at h3
          obtain ⟨h3, h4, h5⟩ := h3
          unfold zeroOk at h5
          split at h5
          · rename_i z hz
            obtain ⟨z1, z2⟩ := zeroFlat_some hz
            obtain ⟨st, s1, s2⟩ := isSliceT_some hd
            obtain ⟨xt, s3, s4⟩ := Option.bind_eq_some_iff.1 h2
            have hT : AppTys P c.argTypes elem ti z := ⟨⟨st, xt, d, s1, s2, s3, s4, by cases d <;> first | exact .inl ⟨_, rfl⟩ | exact .inr rfl | cases h3⟩, h1, z1, Nat.eq_of_beq_eq_true h5, h4⟩
            rw [call2_ex ho hcal hx (f := Builtin.append_) (fun _ _ _ _ => rfl)]
            exact app_sound hR hT (evl_rel hE s (hargs s (by rw [hx]; simp))) (evl_rel hE x (hargs x (by rw [hx]; simp)))
          · cases h5
        · cases hc
      · cases hc
    · cases hc
  · rename_i d s hx
    split at hc
    · rename_i elem hd
      split at hc
      · rename_i ti h1
        split at hc
        · cases hc
          obtain ⟨st, s1, s2⟩ := isSliceT_some hd
          rw [call2_ex ho hcal hx (f := Builtin.copy_) (fun _ _ _ _ => rfl)]
          exact copy_sound hR s1 s2 h1 (evl_rel hE d (hargs d (by rw [hx]; simp))) (evl_rel hE s (hargs s (by rw [hx]; simp)))
        · cases hc
      · cases hc
    · cases hc
  · rename_i x hx; cases hc; exact usd_sound hR ho hcal hx hE hops
  · cases hc; exact gen_sound hk hE hops
  · cases hc; exact gen_sound hk hE hops
  · cases hc; exact gen_sound hk hE hops
  · cases hc; exact gen_sound hk hE hops
  · cases hc; exact gen_sound hk hE hops
  · unfold compMore at hc
    split at hc
    · rename_i hb
      have hb' := isUstr_true hb
      subst hb'
      unfold compUstr at hc
      split at hc
      · rename_i x n hx
        split at hc
        · rename_i u hu
          cases hc
          obtain ⟨d, s1, s2⟩ := Option.bind_eq_some_iff.1 hu
          obtain ⟨pt, s3, s4⟩ := Option.bind_eq_some_iff.1 s1
          rw [asPtr_some s2] at s4
          rw [call2_ex ho hcal hx (f := Builtin.unsafeString_) (fun _ _ _ _ => rfl)]
          exact ustr_sound hR s3 s4 (evl_rel hE x (hargs x (by rw [hx]; simp))) (evl_rel hE n (hargs n (by rw [hx]; simp)))
        · cases hc
      · cases hc
    · split at hc
      · rename_i _ hb
        have hb' := isDel_true hb
        subst hb'
        unfold compDel at hc
        split at hc
        · rename_i m k hx
          split at hc
          · rename_i kt et hu
            cases hc
            obtain ⟨d, s1, s2⟩ := Option.bind_eq_some_iff.1 hu
            rw [call2_ex ho hcal hx (f := Builtin.delete_) (fun _ _ _ _ => rfl)]
            exact del_sound hR s1 s2 (evl_rel hE m (hargs m (by rw [hx]; simp))) (evl_rel hE k (hargs k (by rw [hx]; simp)))
          · cases hc
        · cases hc
      · cases hc

theorem field_sound {ρ : Ren} {B : Nat} {H : AH} {w : World} {e : Env} {a : Act} {fresh : Nat} (hE : ERel ρ e a) {s : TypeId} {x : Operand} {f : Nat} (hx : okOpd x = true) {i : Ins} (hc : compField P s x f = some i) :
    ResOK P ρ B H w (vNext (Instr.field s (a.eval x) f)) fresh (insA P e H fresh i) := by
  have hv := evl_rel hE x hx
  unfold compField at hc
  split at hc
  · rename_i fields h1
    split at hc
    · rename_i fd h2
      have h2' : fields[f]? = some fd := h2
      have hrw : ∀ (w2 : World), (vNext (Instr.field s (a.eval x) f)).run P w2 = (vNext (do part fd.type (← asAgg (a.eval x)) fd.offset)).run P w2 := by
        intro w2
        rw [run_vNext, run_vNext]
        simp [Instr.field, run_under h1, h2']
      split at hc
      · rename_i ti d h3 h4
        cases hc
        have fin : ∀ r, ResOK P ρ B H w (vNext (do part fd.type (← asAgg (a.eval x)) fd.offset)) fresh r → (∃ v, r = val v) ∨ r = .none → ResOK P ρ B H w (vNext (Instr.field s (a.eval x) f)) fresh r := by
          intro r h hr
          rcases hr with ⟨v, rfl⟩ | rfl
          · obtain ⟨v', g1, g2⟩ := h
            exact ⟨v', by rw [hrw]; exact g1, g2⟩
          · trivial
        split
        · rename_i hd
          refine fin _ (fldN_sound hv h4 h3 hd fd.offset) ?_
          show (∃ v, fldNA fd.offset ti.size (evl e x) = val v) ∨ fldNA fd.offset ti.size (evl e x) = .none
          unfold fldNA
          split
          · cases Nat.ble _ _ with
            | false => exact .inr rfl
            | true => exact .inl ⟨_, rfl⟩
          · exact .inr rfl
        · rename_i hd
          refine fin _ (fld1_sound hv h4 (by simpa using hd) fd.offset) ?_
          show (∃ v, fld1A fd.offset (evl e x) = val v) ∨ fld1A fd.offset (evl e x) = .none
          unfold fld1A
          split
          · rcases valO_cases _ with h | h
            · exact .inr h
            · exact .inl h
          · exact .inr rfl
      · cases hc
    · cases hc
  · cases hc

theorem index_sound {ρ : Ren} {B : Nat} {H : AH} {w : World} {e : Env} {a : Act} {fresh : Nat} (hE : ERel ρ e a) {o : Oper} {t : TypeId} {x y : Operand} (ho : o.op = .index t x y) (hk : opKind o.op = true) (hops : ∀ x ∈ o.op.operands.toList, okOpd x = true)
    {i : Ins} (hc : compIndex P t x y o = some i) : ResOK P ρ B H w (execOp a.eval o) fresh (insA P e H fresh i) := by
  have hx : okOpd x = true := hops x (by rw [ho]; simp [Op.operands])
  have hy : okOpd y = true := hops y (by rw [ho]; simp [Op.operands])
  have hv := evl_rel hE x hx
  have hi := evl_rel hE y hy
  unfold compIndex at hc
  split at hc
  · rename_i len elem h1
    split at hc
    · rename_i ti d h2 h3
      have hrw : ∀ (n : Nat), asNat (evl e y) = some n → n < len → ∀ (cs : Array Value) (w2 : World), a.eval x = .agg cs → (execOp a.eval o).run P w2 = (vNext (do part elem (← asAgg (a.eval x)) (n * ti.size))).run P w2 := by
        intro n hn hlt cs w2 hcs
        obtain ⟨k, hk1⟩ := asNat_some hn
        rw [hk1] at hi
        rw [run_vNext]
        simp only [execOp, ho, hi.int_inv, hcs]
        simp [Instr.index, asIntOf, run_under h1, run_size h2, asAgg]
        intro h9; omega
      have hagg : ∀ n, asNat (evl e y) = some n → n < len → ∀ r, ((∃ v, r = val v) ∧ (∃ cs, evl e x = .agg cs) ∨ r = .none) → ResOK P ρ B H w (vNext (do part elem (← asAgg (a.eval x)) (n * ti.size))) fresh r → ResOK P ρ B H w (execOp a.eval o) fresh r := by
        intro n hn hlt r hr h
        rcases hr with ⟨⟨v, rfl⟩, cs, hcs⟩ | rfl
        · obtain ⟨v', g1, g2⟩ := h
          rw [hcs] at hv
          obtain ⟨cs', q1, _⟩ := hv.agg_inv
          exact ⟨v', by rw [hrw n hn hlt cs' w q1]; exact g1, g2⟩
        · trivial
      split at hc
      · rename_i hd
        cases hc
        show ResOK P ρ B H w _ fresh (idxNA len ti.size (evl e x) (evl e y))
        unfold idxNA
        split
        · rename_i n hn
          cases hq : Nat.blt n len with
          | false => rw [cond_false]; trivial
          | true =>
            rw [cond_true]
            have hlt : n < len := Nat.le_of_ble_eq_true hq
            refine hagg n hn hlt _ ?_ (fldN_sound hv h3 h2 hd (n * ti.size))
            unfold fldNA
            split
            · rename_i cs hcs
              cases Nat.ble _ _ with
              | false => exact .inr rfl
              | true => exact .inl ⟨⟨_, rfl⟩, cs, hcs⟩
            · exact .inr rfl
        · trivial
      · rename_i hd
        cases hc
        show ResOK P ρ B H w _ fresh (idx1A len ti.size (evl e x) (evl e y))
        unfold idx1A
        split
        · rename_i n hn
          cases hq : Nat.blt n len with
          | false => rw [cond_false]; trivial
          | true =>
            rw [cond_true]
            have hlt : n < len := Nat.le_of_ble_eq_true hq
            refine hagg n hn hlt _ ?_ (fld1_sound hv h3 (by simpa using hd) (n * ti.size))
            unfold fld1A
            split
            · rename_i cs hcs
              rcases valO_cases (cs.toList[n * ti.size]?) with h | h
              · exact .inr h
              · exact .inl ⟨h, cs, hcs⟩
            · exact .inr rfl
        · trivial
    · cases hc
  · cases hc; exact gen_sound hk hE hops
  · cases hc

theorem comp_sound {ρ : Ren} {B : Nat} {H : AH} {w : World} (hR : Rel ρ B H w) {e : Env} {a : Act} {fresh : Nat} (hE : ERel ρ e a) {o : Oper} {i : Ins} (hc : comp P o = some i) :
    ResOK P ρ B H w (execOp a.eval o) fresh (insA P e H fresh i) := by
  unfold comp at hc
  split at hc
  · rename_i h0
    simp only [Bool.and_eq_true] at h0
    obtain ⟨hk, hops0⟩ := h0
    have hops := list_all hops0
    have mem : ∀ {x : Operand}, x ∈ o.op.operands.toList → okOpd x = true := fun h => hops _ h
    unfold compOp at hc
    split at hc
    · rename_i x ho; cases hc
      exact mv_sound hE (hops x (by rw [ho]; simp [Op.operands])) (by simp [execOp, ho])
    · rename_i x ho; cases hc
      exact mv_sound hE (hops x (by rw [ho]; simp [Op.operands])) (by simp [execOp, ho])
    · rename_i c x y ho; cases hc
      have := pick_sound (P := P) (B := B) (H := H) (w := w) (fresh := fresh) hE (c := c) (x := x) (y := y) (hops c (by rw [ho]; simp [Op.operands])) (hops x (by rw [ho]; simp [Op.operands])) (hops y (by rw [ho]; simp [Op.operands]))
      simp only [execOp, ho]; exact this
    · rename_i elem ho
      split at hc
      · rename_i ti h1
        split at hc
        · rename_i z h2; cases hc
          have := new_sound (P := P) (ρ := ρ) (B := B) (H := H) (w := w) (fresh := fresh) h1 h2
          simp only [execOp, ho]; exact this
        · cases hc
      · cases hc
    · rename_i elem x ho; cases hc
      have := box_sound (P := P) (B := B) (H := H) (w := w) (fresh := fresh) hE (elem := elem) (hops x (by rw [ho]; simp [Op.operands]))
      simp only [execOp, ho]; exact this
    · rename_i t parts ho
      have := build_sound (P := P) (B := B) (H := H) (w := w) (fresh := fresh) hE (t := t) (parts := parts) (fun p hp => hops p.2 (by rw [ho]; simp only [Op.operands]; simp; exact ⟨p.1, by simpa using hp⟩)) hc
      simp only [execOp, ho]; exact this
    · rename_i t len parts ho
      have := bslice_sound (P := P) (B := B) (H := H) (w := w) (fresh := fresh) hE (t := t) (len := len) (parts := parts) (fun p hp => hops p.2 (by rw [ho]; simp only [Op.operands]; simp; exact ⟨p.1, by simpa using hp⟩)) hc
      simp only [execOp, ho]; exact this
    · rename_i t x ho
      have := load_sound (fresh := fresh) hR hE (hops x (by rw [ho]; simp [Op.operands])) hc
      simp only [execOp, ho]; exact this
    · rename_i t x y ho
      split at hc
      · rename_i ti h1; cases hc; exact store_sound hR ho h1 hE hops
      · cases hc
    · rename_i x ho; cases hc; exact nilc_sound hE (hops x (by rw [ho]; simp [Op.operands])) ho
    · rename_i op t x y yt ho
      unfold compBin at hc
      split at hc
      · rename_i d hd
        split at hc
        · cases hc; exact int2_sound ho hk hE hops
        · split at hc
          · split at hc
            · exact ref_sound (neg := false) ho hE hops rfl hd hc
            · exact ref_sound (neg := true) ho hE hops rfl hd hc
            · cases hc
          · cases hc; exact gen_sound hk hE hops
      · cases hc
    · cases hc; exact gen_sound hk hE hops
    · rename_i src dst x ho
      unfold compConv at hc
      split at hc
      · rename_i el h1 h2
        split at hc
        · rename_i h3; cases hc; exact b2s_sound hR ho h1 h2 h3 hE hk hops
        · cases hc
      · rename_i el h1 h2
        split at hc
        · rename_i ti h3 h4
          split at hc
          · cases hc; exact s2b_sound ho h1 h2 h3 hE hops
          · cases hc
        · cases hc
      · rename_i sd dd _ _ h1 h2
        exact ptr_sound hR ho h1 h2 hE hk hops hc
      · cases hc
    · rename_i t x ho
      split at hc
      · cases hc
      · rename_i d hnot hd; cases hc
        have := iface_sound (P := P) (B := B) (H := H) (w := w) (fresh := fresh) hE (hops x (by rw [ho]; simp [Op.operands])) hd (fun ms h => hnot ms h)
        simp only [execOp, ho]; exact this
      · cases hc
    · rename_i fn first captured ho
      split at hc
      · rename_i hf; cases hc
        have := mkfn_sound (P := P) (B := B) (H := H) (w := w) (fresh := fresh) hE (fn := fn) (f := first) (c := captured) (fun x hx => hops x (by rw [ho]; simp only [Op.operands, Array.toList_append, List.mem_append]; exact .inl hx)) (fun x hx => hops x (by rw [ho]; simp only [Op.operands, Array.toList_append, List.mem_append]; exact .inr hx)) hf
        simp only [execOp, ho]; exact this
      · cases hc
    · rename_i t ho; cases hc
      have := mkmap_sound (P := P) (ρ := ρ) (B := B) (H := H) (w := w) (fresh := fresh) (t := t)
      simp only [execOp, ho]; exact this
    · rename_i t l c ho
      split at hc
      · rename_i elem h1
        split at hc
        · rename_i ti h2
          split at hc
          · rename_i z h3
            split at hc
            · rename_i h4; cases hc
              simp only [Bool.and_eq_true, Nat.beq_eq, Nat.blt_eq] at h4
              have := mkslice_sound (P := P) (B := B) (H := H) (w := w) (fresh := fresh) hE (l := l) (c := c) (hops l (by rw [ho]; simp [Op.operands])) (hops c (by rw [ho]; simp [Op.operands])) h1 h2 h3 h4.1 h4.2
              simp only [execOp, ho]; exact this
            · cases hc
          · cases hc
        · cases hc
      · cases hc
    · rename_i t x lo hi mx ho
      unfold compSl at hc
      split at hc
      · cases hc; exact gen_sound hk hE hops
      · rename_i elem h1
        split at hc
        · rename_i ti h2; cases hc; exact slS_sound hR ho hk hE hops h1 h2
        · cases hc
      · rename_i n elem h1
        split at hc
        · rename_i ti h2; cases hc
          have := slA_sound (P := P) (B := B) (H := H) (w := w) (fresh := fresh) (lo := lo) (hi := hi) hE (hops x (by rw [ho]; simp [Op.operands])) (fun y hy => hops y (by rw [ho, hy]; simp [Op.operands])) (fun y hy => hops y (by rw [ho, hy]; simp [Op.operands])) h1 h2
          simp only [execOp, ho, Option.map_none]; exact this
        · cases hc
      · cases hc
    · rename_i s x f ho
      have := faddr_sound (P := P) (B := B) (H := H) (w := w) (fresh := fresh) hE (hops x (by rw [ho]; simp [Op.operands])) hc
      simp only [execOp, ho]; exact this
    · rename_i s x f ho
      have := field_sound (P := P) (B := B) (H := H) (w := w) (fresh := fresh) hE (hops x (by rw [ho]; simp [Op.operands])) hc
      simp only [execOp, ho]; exact this
    · rename_i t x y ho
      have := iaddr_sound (P := P) (B := B) (H := H) (w := w) (fresh := fresh) hE (hops x (by rw [ho]; simp [Op.operands])) (hops y (by rw [ho]; simp [Op.operands])) hc
      simp only [execOp, ho]; exact this
    · rename_i t x y ho; exact index_sound hE ho hk hops hc
    · rename_i t m k ok ho
      split at hc
      · rename_i kt et h1
        split at hc
        · rename_i ti h2
          split at hc
          · rename_i z h3; cases hc; exact look_sound hR ho h1 h2 h3 hE hk hops
          · cases hc
        · cases hc
      · cases hc
    · rename_i t m k x ho
      split at hc
      · rename_i kt et h1; cases hc
        exact upd_sound hR h1 (evl_rel hE m (hops m (by rw [ho]; simp [Op.operands]))) (evl_rel hE k (hops k (by rw [ho]; simp [Op.operands]))) (evl_rel hE x (hops x (by rw [ho]; simp [Op.operands]))) (by simp only [execOp, ho])
      · cases hc
    · rename_i t m k x ho
      split at hc
      · rename_i kt et h1; cases hc
        exact upd_sound hR h1 (evl_rel hE m (hops m (by rw [ho]; simp [Op.operands]))) (evl_rel hE k (hops k (by rw [ho]; simp [Op.operands]))) (evl_rel hE x (hops x (by rw [ho]; simp [Op.operands]))) (by simp only [execOp, ho])
      · cases hc
    · rename_i x j ho; cases hc
      have := ext_sound (P := P) (B := B) (H := H) (w := w) (fresh := fresh) hE (i := j) (hops x (by rw [ho]; simp [Op.operands]))
      simp only [execOp, ho]; exact this
    · cases hc; exact gen_sound hk hE hops
    · rename_i c ho
      split at hc
      · rename_i b hb; exact builtin_sound hR hE ho hb hk hops hc
      · rename_i f hf
        split at hc
        · rename_i hbd; cases hc; exact call_sound hE ho hf hops hbd
        · split at hc
          · rename_i hs
            unfold compSame at hc
            split at hc
            · rename_i x hx
              cases hc
              exact mv_sound hE (hops x (by rw [ho]; simp only [Op.operands, Call.operands, Array.toList_append, List.mem_append]; exact .inr (by rw [hx]; simp))) (call_same ho hf hs hx w)
            · cases hc
          · unfold compExt at hc
            split at hc
            · rename_i el hel
              unfold compMk at hc
              split at hc
              · rename_i x hx
                cases hc
                exact mknz_sound hR ho hf hel hx hE (hops x (by rw [ho]; simp only [Op.operands, Call.operands, Array.toList_append, List.mem_append]; exact .inr (by rw [hx]; simp)))
              · cases hc
            · cases hc; exact gen_sound hk hE hops
      · rename_i f _ hf; cases hc; exact dyn_sound hE ho hf hops
      · cases hc
    · cases hc
  · cases hc

end
end Go.Den
