/-
  THE ENGINE, part P: the operations of a region, one behind the other; results; what a call comes to.
-/
import Derived.Test.YtbpcageamcgehaaEngO
import Derived.LoopN
namespace Go.Den
noncomputable section

variable {P : Program}

/-- What is kept from one moment to another. -/
structure Post (ρ : Ren) (B : Nat) (H : AH) (w : World) (ρ' : Ren) (H' : AH) (w' : World) : Prop where
  rel : Rel ρ' B H' w'
  ext : Ext ρ H w ρ' H' w'

theorem Post.refl {ρ : Ren} {B : Nat} {H : AH} {w : World} (h : Rel ρ B H w) : Post ρ B H w ρ H w := ⟨h, .refl ρ H w⟩

theorem Post.trans {ρ ρ1 ρ2 : Ren} {B : Nat} {H H1 H2 : AH} {w w1 w2 : World} (h : Post ρ B H w ρ1 H1 w1) (h' : Post ρ1 B H1 w1 ρ2 H2 w2) (hf : Free ρ H.n H2.n) : Post ρ B H w ρ2 H2 w2 :=
  ⟨h'.rel, h.ext.trans h.rel.low h'.ext hf⟩

theorem Free.sub {ρ : Ren} {n m m' : Nat} (h : Free ρ n m') (hm : m ≤ m') : Free ρ n m := fun id ver a b => h id ver a (by omega)

/-- What a task comes to. -/
def CallOK (P : Program) (f : FuncId) (args : List Value) (H : AH) (v : Value) (H' : AH) : Prop :=
  H.n ≤ H'.n ∧ ∀ (ρ : Ren) (B : Nat) (w : World) (args' : Array Value), Rel ρ B H w → VRL ρ args args'.toList → Free ρ H.n H'.n →
    Calls P f args' w fun e w' => ∃ ρ' v', e = .returned v' ∧ VR ρ' v v' ∧ Post ρ B H w ρ' H' w'

def exitOf : AExit → Exit
  | .normal => .normal
  | .exit id => .exit id
  | .goto l => .goto l
  | .ret => .ret

/-- How a text's run ends. -/
def CodePost (ρ : Ren) (B : Nat) (H : AH) (w : World) (x : AExit) (e' : Env) (H' : AH) : Exit → Act → World → Prop :=
  fun ex a' w' => ex = exitOf x ∧ ∃ ρ', ERel ρ' e' a' ∧ Post ρ B H w ρ' H' w'

/-- A text's run; a loop's: by its rounds. -/
def runsN (P : Program) (n : Nat) (Q : Exit → Act → World → Prop) (a : Act) (w : World) : Code → Prop
  | .loop c => Code.rounds P c Q n a w
  | c => c.wp P Q a w

def CodeOK (P : Program) (c : Code) (e : Env) (H : AH) (x : AExit) (e' : Env) (H' : AH) : Prop :=
  H.n ≤ H'.n ∧ ∃ n, ∀ (ρ : Ren) (B : Nat) (w : World) (a : Act), Rel ρ B H w → ERel ρ e a → Free ρ H.n H'.n → runsN P n (CodePost ρ B H w x e' H') a w c

def RecOK (P : Program) (rec : Rec) : Prop := ∀ t H o H', rec t H = some (o, H') → match t, o with
  | .call f args, .val v => CallOK P f args H v H'
  | .code c e, .code x e' => CodeOK P c e H x e' H'
  | _, _ => False

theorem RecOK.call {rec : Rec} (h : RecOK P rec) {f : FuncId} {args : List Value} {H H' : AH} {v : Value} (e : rec (.call f args) H = some (.val v, H')) : CallOK P f args H v H' := h _ _ _ _ e
theorem RecOK.code {rec : Rec} (h : RecOK P rec) {c : Code} {e e' : Env} {H H' : AH} {x : AExit} (he : rec (.code c e) H = some (.code x e', H')) : CodeOK P c e H x e' H' := h _ _ _ _ he

/-- What one operation does, in the machine. -/
def DidOK (P : Program) (o : Oper) (e : Env) (H : AH) : Did → Prop
  | .none => True
  | .did v _ _ H' => H.n ≤ H'.n ∧ ∀ (ρ : Ren) (B : Nat) (w : World) (a : Act) (K : Act → World → Prop) (Q : Exit → Act → World → Prop), Rel ρ B H w → ERel ρ e a → Free ρ H.n H'.n →
      (∀ ρ' v' w', VR ρ' v v' → Post ρ B H w ρ' H' w' → K (a.put o.dst v') w') → o.wp P a w K Q

theorem push_n (H : AH) (b : ABlk) : (H.push b).n = H.n + 1 := by rw [AH.push_eq]

theorem step_ok {rec : Rec} (hrec : RecOK P rec) {o : Oper} {e : Env} {H : AH} : DidOK P o e H (stepA P rec e H (comp P o)) := by
  cases hc : comp P o with
  | none => trivial
  | some i =>
    show DidOK P o e H (didRes rec H (insA P e H H.n i))
    have key := fun (ρ : Ren) (B : Nat) (w : World) (a : Act) (hR : Rel ρ B H w) (hE : ERel ρ e a) => comp_sound (fresh := H.n) hR hE hc
    cases hr : insA P e H H.n i with
    | none => trivial
    | simple v nb =>
      cases nb with
      | none =>
        refine ⟨Nat.le_refl _, fun ρ B w a K Q hR hE _ hK => ?_⟩
        have := key ρ B w a hR hE
        rw [hr] at this
        obtain ⟨v', h1, h2⟩ := this
        show o.upon P a K Q ((execOp a.eval o).run P w)
        rw [h1]
        exact hK ρ v' w h2 (.refl hR)
      | some b =>
        show DidOK P o e H (bif okKey H.n then .did v (some b) false (H.push b) else .none)
        cases hk : okKey H.n with
        | false => trivial
        | true =>
          rw [cond_true]
          refine ⟨by rw [push_n]; omega, fun ρ B w a K Q hR hE hfree hK => ?_⟩
          have := key ρ B w a hR hE
          rw [hr] at this
          obtain ⟨v', w', obj, l, h1, h2, h6, h3, h4, h5⟩ := this
          have hf : ∀ ver, ρ H.n ver = none := fun ver => hfree H.n ver (Nat.le_refl _) (by rw [push_n]; omega)
          obtain ⟨r1, r2⟩ := Ext.push hR hk h2 h3 hf (fun ρ' a b => (h4 ρ' a b).2) h5 h6
          show o.upon P a K Q ((execOp a.eval o).run P w)
          rw [h1]
          exact hK _ v' w' (h4 _ (Ren.sub_add (hf 0)) (Ren.add_self _ _ _ _)).1 ⟨r1, r2⟩
    | eff v H' =>
      show DidOK P o e H (bif Nat.ble H.n H'.n then .did v .none true H' else .none)
      cases hb : Nat.ble H.n H'.n with
      | false => trivial
      | true =>
      rw [cond_true]
      have hn : H.n ≤ H'.n := Nat.le_of_ble_eq_true hb
      refine ⟨hn, fun ρ B w a K Q hR hE hfree hK => ?_⟩
      have := key ρ B w a hR hE
      rw [hr] at this
      obtain ⟨nx, v', w', ρ', h1, h2, h3, h4, h5⟩ := this hfree
      show o.upon P a K Q ((execOp a.eval o).run P w)
      rw [h1]
      unfold outOf at h2
      split at h2
      · cases h2; exact hK ρ' _ w' h3 ⟨h4, h5⟩
      · cases h2; exact hK ρ' _ w' h3 ⟨h4, h5⟩
      · cases h2
    | call f args =>
      show DidOK P o e H (didCall (rec (.call f args) H))
      cases hq : rec (.call f args) H with
      | none => trivial
      | some p =>
        obtain ⟨out, H'⟩ := p
        cases out with
        | code x e' => trivial
        | val v =>
          obtain ⟨hn, hcall⟩ := hrec.call hq
          refine ⟨hn, fun ρ B w a K Q hR hE hfree hK => ?_⟩
          have := key ρ B w a hR hE
          rw [hr] at this
          obtain ⟨args', h1, h2⟩ := this
          show o.upon P a K Q ((execOp a.eval o).run P w)
          rw [h1]
          refine (hcall ρ B w args' hR h2 hfree).mono ?_
          rintro ex w' ⟨ρ', v', rfl, h3, h4⟩
          exact hK ρ' v' w' h3 h4

/- GUARDS -/

theorem VR.bool_of {ρ : Ren} {x : Value} {b : Bool} (h : VR ρ x (.bool b)) : x = .bool b := by
  cases h
  rfl

theorem wanted_eq {ρ : Ren} {e : Env} {a : Act} (hE : ERel ρ e a) (ops : Array Oper) (o : Oper) : wantedA (compGuard ops o.guard) e = Region.wanted o (yielded ops a.tmps) := by
  unfold compGuard wantedA Region.wanted
  cases hg : o.guard with
  | none => rfl
  | some p =>
    obtain ⟨j, want⟩ := p
    simp only [yielded]
    cases hd : (ops[j]?).bind (·.dst) with
    | none => simp
    | some d =>
      simp only [Option.bind_some]
      have hv := hE.get d
      by_cases hlt : d < a.tmps.size
      · have e1 : a.tmps[d]? = some a.tmps[d] := Array.getElem?_eq_getElem hlt
        have e2 : a.tmps.getD d undef = a.tmps[d] := by simp [hlt]
        rw [e1]
        rw [e2] at hv
        cases hx : a.tmps[d] with
        | bool b =>
          rw [hx] at hv
          rw [hv.bool_of]
          simp only [isB]
          cases b <;> cases want <;> rfl
        | _ =>
          rw [hx] at hv
          cases hy : e.get d with
          | bool b => rw [hy] at hv; cases hv.bool_inv
          | _ => rfl
      · have e1 : a.tmps[d]? = none := Array.getElem?_eq_none (Nat.le_of_not_lt hlt)
        have e2 : a.tmps.getD d undef = undef := by simp [hlt]
        rw [e1]
        rw [e2] at hv
        cases hy : e.get d with
        | bool b => rw [hy] at hv; cases hv.bool_inv
        | _ => rfl

/- A REGION IN ITS ORDER -/

theorem opsA_nil (P : Program) (rec : Rec) (e : Env) (H : AH) : opsA P rec [] e H = some (e, H) := rfl
theorem opsA_cons (P : Program) (rec : Rec) (o : COp) (r : List COp) (e : Env) (H : AH) :
    opsA P rec (o :: r) e H = bif wantedA o.guard e then opsK (stepA P rec e H o.ins) o.dst e (opsA P rec r) else opsA P rec r (e.put o.dst undef) H := rfl
theorem compOps_cons (P : Program) (ops : Array Oper) (o : Oper) (r : List Oper) : compOps P ops (o :: r) = compO P ops o :: compOps P ops r := rfl

theorem ops_ok {rec : Rec} (hrec : RecOK P rec) (ops : Array Oper) : ∀ (l : List Oper) (k : Nat) (e : Env) (H : AH) (e' : Env) (H' : AH), ops.toList.drop k = l → opsA P rec (compOps P ops l) e H = some (e', H') →
    H.n ≤ H'.n ∧ ∀ (ρ : Ren) (B : Nat) (w : World) (a : Act) (Q : Exit → Act → World → Prop), Rel ρ B H w → ERel ρ e a → Free ρ H.n H'.n →
      (∀ ρ' a' w', ERel ρ' e' a' → Post ρ B H w ρ' H' w' → Q .normal a' w') → wpOps P ops Q (List.range' k l.length) a w := by
  intro l
  induction l with
  | nil =>
    intro k e H e' H' _ h
    cases h
    exact ⟨Nat.le_refl _, fun ρ B w a Q hR hE _ hQ => hQ ρ a w hE (.refl hR)⟩
  | cons o r ih =>
    intro k e H e' H' hd h
    have hk : ops[k]? = some o := by
      have : (ops.toList.drop k)[0]? = some o := by rw [hd]; rfl
      simpa using this
    have hd' : ops.toList.drop (k + 1) = r := by
      have : (ops.toList.drop k).drop 1 = r := by rw [hd]; rfl
      rw [List.drop_drop] at this
      exact this
    rw [compOps_cons, opsA_cons] at h
    have hguard : (compO P ops o).guard = compGuard ops o.guard := rfl
    have hdst : (compO P ops o).dst = o.dst := rfl
    have hins : (compO P ops o).ins = comp P o := rfl
    rw [hguard, hdst, hins] at h
    cases hw : wantedA (compGuard ops o.guard) e with
    | false =>
      rw [hw, cond_false] at h
      obtain ⟨h1, h2⟩ := ih (k + 1) _ _ _ _ hd' h
      refine ⟨h1, fun ρ B w a Q hR hE hf hQ => ?_⟩
      rw [List.length_cons, List.range'_succ]
      simp only [wpOps, hk]
      rw [← wanted_eq hE ops o, hw]
      exact h2 ρ B w _ Q hR (hE.put (.flat flat_undef) o.dst) hf hQ
    | true =>
      rw [hw, cond_true] at h
      have hstep := step_ok (o := o) (e := e) (H := H) hrec
      cases hs : stepA P rec e H (comp P o) with
      | none => rw [hs] at h; cases h
      | did v nb eff H1 =>
        rw [hs] at h hstep
        obtain ⟨h1, h2⟩ := ih (k + 1) _ _ _ _ hd' h
        obtain ⟨h3, h4⟩ := hstep
        refine ⟨Nat.le_trans h3 h1, fun ρ B w a Q hR hE hf hQ => ?_⟩
        rw [List.length_cons, List.range'_succ]
        simp only [wpOps, hk]
        rw [← wanted_eq hE ops o, hw]
        refine .inl (h4 ρ B w a _ Q hR hE (hf.sub h1) fun ρ1 v' w1 hv hp => ?_)
        refine h2 ρ1 B w1 _ Q hp.rel ((hE.mono hp.ext.sub).put hv o.dst) (hf.next hR.low hp.ext) fun ρ2 a2 w2 he2 hp2 => ?_
        exact hQ ρ2 a2 w2 he2 (hp.trans hp2 hf)

/- RESULTS -/

def resSem (tmps : Array Value) : ResultVar → Sem Value
  | .tmp t => pure (tmps.getD t undef)
  | .cell b t => do loadVar t (← asAddr (tmps.getD b undef))

theorem res1_ok {H : AH} {e : Env} {x : ResultVar} {v : Value} (h1 : resA H e (compRes P x) = some v) {ρ : Ren} {B : Nat} {w : World} {a : Act} (hR : Rel ρ B H w) (hE : ERel ρ e a) : ∃ v', (resSem a.tmps x).run P w = .ok v' w ∧ VR ρ v v' := by
  cases x with
  | tmp t => cases h1; exact ⟨_, rfl, hE.get t⟩
  | cell b t =>
    simp only [compRes] at h1
    split at h1
    · rename_i ti d hti htd
      cases hd : isAggD d with
      | true =>
        rw [hd, cond_true] at h1
        simp only [resA] at h1
        rcases loadNA_cases H ti.size (e.get b) with h0 | ⟨y, h0⟩
        · rw [h0] at h1; cases h1
        · rw [h0] at h1
          cases h1
          obtain ⟨p, y', g1, g2, g3⟩ := loadN_run hR htd hti hd (hE.get b) h0
          exact ⟨y', by simp only [resSem, g1]; simp [asAddr, g2], g3⟩
      | false =>
        rw [hd, cond_false] at h1
        simp only [resA] at h1
        rcases load1A_cases H (e.get b) with h0 | ⟨y, h0⟩
        · rw [h0] at h1; cases h1
        · rw [h0] at h1
          cases h1
          obtain ⟨p, y', g1, g2, g3⟩ := load1_run hR htd hd (hE.get b) h0
          exact ⟨y', by simp only [resSem, g1]; simp [asAddr, g2], g3⟩
    · cases h1

theorem results_ok {H : AH} {e : Env} : ∀ (l : List ResultVar) (vs : List Value), resultsA P H e l = some vs → ∀ (ρ : Ren) (B : Nat) (w : World) (a : Act), Rel ρ B H w → ERel ρ e a →
    ∃ vs', (l.mapM (resSem a.tmps)).run P w = .ok vs' w ∧ VRL ρ vs vs' := by
  intro l
  induction l with
  | nil => intro vs h ρ B w a _ _; cases h; exact ⟨[], by simp, .nil ρ⟩
  | cons x r ih =>
    intro vs h ρ B w a hR hE
    simp only [resultsA] at h
    split at h
    · rename_i v l h1 h2
      cases h
      obtain ⟨vs', h3, h4⟩ := ih l h2 ρ B w a hR hE
      obtain ⟨v', h5, h6⟩ := res1_ok h1 hR hE
      refine ⟨v' :: vs', ?_, .cons h6 h4⟩
      rw [List.mapM_cons]
      simp only [Sem.run_bind, h5, Result.andThen_ok, h3, Sem.run_pure]
    · cases h

theorem oneOrTuple_rel {ρ : Ren} {vs vs' : List Value} (h : VRL ρ vs vs') : VR ρ (oneOrTuple vs) (if h : vs'.toArray.size = 1 then vs'.toArray[0] else .tuple vs'.toArray) := by
  cases vs with
  | nil => rw [h.unnil]; exact .flat rfl
  | cons v r =>
    obtain ⟨v', r', rfl, h1, h2⟩ := h.uncons
    cases r with
    | nil => rw [h2.unnil]; exact h1
    | cons v2 r2 =>
      obtain ⟨v2', r2', rfl, h3, h4⟩ := h2.uncons
      have : ¬ (v' :: v2' :: r2').toArray.size = 1 := by simp
      rw [dif_neg this]
      exact .tuple_mk (by simpa using h)

theorem results_run {H : AH} {e : Env} {fn : Func} {vs : List Value} (h : resultsA P H e fn.results.toList = some vs) {ρ : Ren} {B : Nat} {w : World} {a : Act} (hR : Rel ρ B H w) (hE : ERel ρ e a) :
    ∃ v', (results fn a.tmps).run P w = .ok v' w ∧ VR ρ (oneOrTuple vs) v' := by
  obtain ⟨vs', h1, h2⟩ := results_ok fn.results.toList vs h ρ B w a hR hE
  refine ⟨_, ?_, oneOrTuple_rel h2⟩
  have e1 : (fun x => match x with
    | ResultVar.tmp t => pure (a.tmps.getD t undef)
    | ResultVar.cell b t => (do loadVar t (← asAddr (a.tmps.getD b undef)) : Sem Value)) = resSem a.tmps := by funext x; cases x <;> rfl
  unfold results
  rw [Array.mapM_eq_mapM_toList]
  show ((List.toArray <$> fn.results.toList.mapM (fun x => match x with
    | ResultVar.tmp t => pure (a.tmps.getD t undef)
    | ResultVar.cell b t => (do loadVar t (← asAddr (a.tmps.getD b undef)) : Sem Value))) >>= fun vs => pure (if h : vs.size = 1 then vs[0] else .tuple vs)).run P w = _
  rw [e1]
  simp only [bind_map_left, Sem.run_bind, h1, Result.andThen_ok]
  rfl

end
end Go.Den
