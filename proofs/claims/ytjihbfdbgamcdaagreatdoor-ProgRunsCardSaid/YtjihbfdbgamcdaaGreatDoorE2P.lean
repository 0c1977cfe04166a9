/-
  THE ENGINE, part P: the operations of a region, one behind the other; results; what a call comes to.
-/
import Derived.Test.YtjihbfdbgamcdaaGreatDoorE2E
import Derived.LoopN
namespace Go.Den
noncomputable section

variable {P : Program}

/-- What is kept from one moment to another. -/
structure Post (ρ : Ren) (B : Nat) (H : AH) (w : World) (ρ' : Ren) (H' : AH) (w' : World) : Prop where
  rel : Rel ρ' B H' w'
  ext : Ext ρ H w ρ' H' w'

theorem Post.refl {ρ : Ren} {B : Nat} {H : AH} {w : World} (h : Rel ρ B H w) : Post ρ B H w ρ H w := ⟨h, .refl ρ H w⟩

theorem Post.trans {ρ ρ1 ρ2 : Ren} {B : Nat} {H H1 H2 : AH} {w w1 w2 : World} (h : Post ρ B H w ρ1 H1 w1) (h' : Post ρ1 B H1 w1 ρ2 H2 w2) (hf : Free ρ H.n H2.n) : Post ρ B H w ρ2 H2 w2 :=
  ⟨h'.rel, h.ext.trans h.rel.low h'.ext hf⟩

theorem Free.sub {ρ : Ren} {n m m' : Nat} (h : Free ρ n m') (hm : m ≤ m') : Free ρ n m := fun id ver a b => h id ver a (by omega)

/-- What package-level variables hold. -/
def GOK (G : Nat → Option (List Value)) (ρ : Ren) : Prop := ∀ i, VR ρ (globV (G i)) (.pointer (some ⟨i, 0, none⟩))

theorem ERel.gok {ρ : Ren} {e : Env} {a : Act} (h : ERel ρ e a) : GOK e.g.1 ρ := fun i => h.glob i

theorem GOK.cells {G : Nat → Option (List Value)} {ρ ρ' : Ren} (h : GOK G ρ) (hc : ∀ b i v, ρ.cell b i = some v → ρ'.cell b i = some v) : GOK G ρ' := by
  intro i
  refine (h i).reloc hc ?_
  cases G i <;> rfl

/-- What a call comes to. -/
structure CallOK (P : Program) (G : Nat → Option (List Value)) (f : FuncId) (args : List Value) (H : AH) (v : Value) (H' : AH) (wr : List Nat) : Prop where
  n : H.n ≤ H'.n
  frame : (∀ id b, H.get id = some b → id < H.n) → (∀ id b, H'.get id = some b → id < H'.n) ∧ ∀ id, id ∉ wr → id < H.n → H'.get id = H.get id
  run : ∀ (ρ : Ren) (B : Nat) (w : World) (args' : Array Value), Rel ρ B H w → GOK G ρ → VRL ρ args args'.toList → Free ρ H.n H'.n →
    Calls P f args' w fun e w' => ∃ ρ' v', e = .returned v' ∧ VR ρ' v v' ∧ Post ρ B H w ρ' H' w'

def CSOK (P : Program) (G : Nat → Option (List Value)) (cs : Calls0) : Prop := ∀ f args H v nb eff H' wr, cs f args H = .did v nb eff H' wr → nb = none ∧ eff = true ∧ CallOK P G f args H v H' wr

/-- What one operation does, in the machine. -/
def DidOK (P : Program) (o : Oper) (e : Env) (H : AH) : Did → Prop
  | .none => True
  | .did v _ _ H' _ => H.n ≤ H'.n ∧ ∀ (ρ : Ren) (B : Nat) (w : World) (a : Act) (K : Act → World → Prop) (Q : Exit → Act → World → Prop), Rel ρ B H w → ERel ρ e a → Free ρ H.n H'.n →
      (∀ ρ' v' w', VR ρ' v v' → Post ρ B H w ρ' H' w' → K (a.put o.dst v') w') → o.wp P a w K Q

theorem push_n (H : AH) (b : ABlk) : (H.push b).n = H.n + 1 := by rw [AH.push_eq]

def Low (H : AH) : Prop := ∀ id b, H.get id = some b → id < H.n

theorem Low.push {H : AH} (h : Low H) (hk : okKey H.n = true) (b : ABlk) : Low (H.push b) := by
  intro id c hc
  rw [AH.get_push hk] at hc
  rw [push_n]
  split at hc
  · omega
  · have := h id c hc; omega

theorem step_ok {cs : Calls0} {o : Oper} {e : Env} {H : AH} (hrec : CSOK P e.g.1 cs) : DidOK P o e H (stepA P cs e H (comp P o)) := by
  cases hc : comp P o with
  | none => trivial
  | some i =>
    show DidOK P o e H (didRes cs (effWr e i) H (insA P e H H.n i))
    have key := fun (ρ : Ren) (B : Nat) (w : World) (a : Act) (hR : Rel ρ B H w) (hE : ERel ρ e a) => comp_sound (fresh := H.n) hR hE hc
    cases hr : insA P e H H.n i with
    | none => trivial
    | simple v nb =>
      cases nb with
      | none =>
        refine ⟨Nat.le_refl _, fun ρ B w a K Q hR hE _ hK => ?_⟩
        have := key ρ B w a hR hE
        rw [hr] at this
        obtain ⟨v', h1, h2⟩ := this
        show o.upon P a K Q ((execOp a.eval o).run P w)
        rw [h1]
        exact hK ρ v' w h2 (.refl hR)
      | some b =>
        show DidOK P o e H (bif okKey H.n then .did v (some b) false (H.push b) [] else .none)
        cases hk : okKey H.n with
        | false => trivial
        | true =>
          rw [cond_true]
          refine ⟨by rw [push_n]; omega, fun ρ B w a K Q hR hE hfree hK => ?_⟩
          have := key ρ B w a hR hE
          rw [hr] at this
          obtain ⟨v', w', obj, l, h1, h2, h6, h3, h4, h5⟩ := this
          have hf : ∀ ver, ρ H.n ver = none := fun ver => hfree H.n ver (Nat.le_refl _) (by rw [push_n]; omega)
          obtain ⟨r1, r2⟩ := Ext.push hR hk h2 h3 hf (fun ρ' a b => (h4 ρ' a b).2) h5 h6
          show o.upon P a K Q ((execOp a.eval o).run P w)
          rw [h1]
          exact hK _ v' w' (h4 _ (Ren.sub_add (hf 0)) (Ren.add_self _ _ _ _)).1 ⟨r1, r2⟩
    | eff v H' =>
      show DidOK P o e H (bif Nat.ble H.n H'.n then .did v .none true H' (effWr e i) else .none)
      cases hb : Nat.ble H.n H'.n with
      | false => trivial
      | true =>
      rw [cond_true]
      have hn : H.n ≤ H'.n := Nat.le_of_ble_eq_true hb
      refine ⟨hn, fun ρ B w a K Q hR hE hfree hK => ?_⟩
      have := key ρ B w a hR hE
      rw [hr] at this
      obtain ⟨nx, v', w', ρ', h1, h2, h3, h4, h5⟩ := this hfree
      show o.upon P a K Q ((execOp a.eval o).run P w)
      rw [h1]
      unfold outOf at h2
      split at h2
      · cases h2; exact hK ρ' _ w' h3 ⟨h4, h5⟩
      · cases h2; exact hK ρ' _ w' h3 ⟨h4, h5⟩
      · cases h2
    | call f args =>
      show DidOK P o e H (cs f args H)
      cases hq : cs f args H with
      | none => trivial
      | did v nb eff H' wr =>
        obtain ⟨_, _, hcall⟩ := hrec _ _ _ _ _ _ _ _ hq
        refine ⟨hcall.n, fun ρ B w a K Q hR hE hfree hK => ?_⟩
        have := key ρ B w a hR hE
        rw [hr] at this
        obtain ⟨args', h1, h2⟩ := this
        show o.upon P a K Q ((execOp a.eval o).run P w)
        rw [h1]
        refine (hcall.run ρ B w args' hR hE.gok h2 hfree).mono ?_
        rintro ex w' ⟨ρ', v', rfl, h3, h4⟩
        exact hK ρ' v' w' h3 h4

/- GUARDS -/

theorem gselV_rel {ρ : Ren} {x x' : Value} {want b : Bool} (h : VR ρ x x') (hg : gselV want x = some b) : (x' = .bool (if want then b else !b)) ∨ (x' = undef ∧ b = false) := by
  unfold gselV at hg
  split at hg
  · rename_i c
    cases hg
    left
    rw [h.bool_inv]
    cases c <;> cases want <;> rfl
  · cases hg
    right
    exact ⟨h.of_flat rfl, rfl⟩
  · cases hg

theorem gsel_eq {ρ : Ren} {e : Env} {a : Act} (hE : ERel ρ e a) (ops : Array Oper) (o : Oper) {b : Bool} (hg : gsel (compGuard ops o.guard) e = some b) : Region.wanted o (yielded ops a.tmps) = b := by
  unfold compGuard gsel at hg
  unfold Region.wanted
  cases hq : o.guard with
  | none => rw [hq] at hg; cases hg; rfl
  | some p =>
    obtain ⟨j, want⟩ := p
    rw [hq] at hg
    dsimp only at hg
    simp only [yielded]
    cases hd : (ops[j]?).bind (·.dst) with
    | none => rw [hd] at hg; cases hg; simp
    | some d =>
      rw [hd] at hg
      simp only [Option.bind_some]
      have hv := hE.get d
      by_cases hlt : d < a.tmps.size
      · have e1 : a.tmps[d]? = some a.tmps[d] := Array.getElem?_eq_getElem hlt
        have e2 : a.tmps.getD d undef = a.tmps[d] := by simp [hlt]
        rw [e1]
        rw [e2] at hv
        rcases gselV_rel hv hg with h1 | ⟨h1, rfl⟩
        · rw [h1]; cases b <;> cases want <;> rfl
        · rw [h1]; rfl
      · have e1 : a.tmps[d]? = none := Array.getElem?_eq_none (Nat.le_of_not_lt hlt)
        have e2 : a.tmps.getD d undef = undef := by simp [hlt]
        rw [e1]
        rw [e2] at hv
        rcases gselV_rel hv hg with h1 | ⟨_, rfl⟩
        · exact absurd h1 (by simp [undef])
        · rfl

/- A REGION IN ITS ORDER -/

theorem opsA_nil {R : Type} (P : Program) (cs : Calls0) (K : KR R) (e : Env) (H : AH) : opsA P cs K [] e H = K e H := rfl
theorem opsA_cons {R : Type} (P : Program) (cs : Calls0) (K : KR R) (o : COp) (r : List COp) (e : Env) (H : AH) :
    opsA P cs K (o :: r) e H = opsK (didG (gsel o.guard e) (stepA P cs e H o.ins) H) o.dst e (opsA P cs K r) := rfl
theorem compOps_cons (P : Program) (ops : Array Oper) (o : Oper) (r : List Oper) : compOps P ops (o :: r) = compO P ops o :: compOps P ops r := rfl

theorem opsK_some {R : Type} {d : Did} {dst : Option Tmp} {e : Env} {K : KR R} {r : R} (h : opsK d dst e K = some r) : ∃ v nb eff H' wr, d = .did v nb eff H' wr ∧ K (e.put dst v) H' = some r := by
  unfold opsK at h
  split at h
  · exact ⟨_, _, _, _, _, rfl, h⟩
  · cases h

theorem didG_some {g : Option Bool} {d : Did} {H : AH} {v : Value} {nb : Option ABlk} {eff : Bool} {H' : AH} {wr : List Nat} (h : didG g d H = .did v nb eff H' wr) :
    (g = some true ∧ d = .did v nb eff H' wr) ∨ (g = some false ∧ v = undef ∧ nb = none ∧ eff = false ∧ H' = H ∧ wr = []) := by
  unfold didG at h
  split at h
  · exact .inl ⟨rfl, h⟩
  · cases h; exact .inr ⟨rfl, rfl, rfl, rfl, rfl, rfl⟩
  · cases h

theorem ops_ok {R : Type} {cs : Calls0} {G : Nat → Option (List Value)} (hrec : CSOK P G cs) (ops : Array Oper) {K : KR R} {r : R} : ∀ (l : List Oper) (k : Nat) (e : Env) (H : AH), e.g.1 = G → ops.toList.drop k = l → opsA P cs K (compOps P ops l) e H = some r →
    ∃ e' H', K e' H' = some r ∧ e'.g = e.g ∧ e'.n = e.n ∧ H.n ≤ H'.n ∧ ∀ (ρ : Ren) (B : Nat) (w : World) (a : Act) (Q : Exit → Act → World → Prop), Rel ρ B H w → ERel ρ e a → Free ρ H.n H'.n →
      (∀ ρ' a' w', ERel ρ' e' a' → Post ρ B H w ρ' H' w' → Q .normal a' w') → wpOps P ops Q (List.range' k l.length) a w := by
  intro l
  induction l with
  | nil =>
    intro k e H _ _ h
    exact ⟨e, H, h, rfl, rfl, Nat.le_refl _, fun ρ B w a Q hR hE _ hQ => hQ ρ a w hE (.refl hR)⟩
  | cons o l ih =>
    intro k e H hge hd h
    have hk : ops[k]? = some o := by
      have : (ops.toList.drop k)[0]? = some o := by rw [hd]; rfl
      simpa using this
    have hd' : ops.toList.drop (k + 1) = l := by
      have : (ops.toList.drop k).drop 1 = l := by rw [hd]; rfl
      rw [List.drop_drop] at this
      exact this
    rw [compOps_cons, opsA_cons] at h
    have hguard : (compO P ops o).guard = compGuard ops o.guard := rfl
    have hdst : (compO P ops o).dst = o.dst := rfl
    have hins : (compO P ops o).ins = comp P o := rfl
    rw [hguard, hdst, hins] at h
    obtain ⟨v, nb, eff, H1, wr, h1, h2⟩ := opsK_some h
    obtain ⟨e', H', h3, hge', hne', h4, h5⟩ := ih (k + 1) _ _ (by rw [Env.put_g]; exact hge) hd' h2
    rw [Env.put_g] at hge'
    rw [Env.put_n] at hne'
    rcases didG_some h1 with ⟨hg, hs⟩ | ⟨hg, rfl, rfl, rfl, rfl, rfl⟩
    · have hstep := step_ok (o := o) (e := e) (H := H) (hge ▸ hrec)
      rw [hs] at hstep
      obtain ⟨h6, h7⟩ := hstep
      refine ⟨e', H', h3, hge', hne', Nat.le_trans h6 h4, fun ρ B w a Q hR hE hf hQ => ?_⟩
      rw [List.length_cons, List.range'_succ]
      simp only [wpOps, hk]
      rw [gsel_eq hE ops o hg]
      refine .inl (h7 ρ B w a _ Q hR hE (hf.sub h4) fun ρ1 v' w1 hv hp => ?_)
      refine h5 ρ1 B w1 _ Q hp.rel ((hE.mono hp.ext.sub).put hv o.dst) (hf.next hR.low hp.ext) fun ρ2 a2 w2 he2 hp2 => ?_
      exact hQ ρ2 a2 w2 he2 (hp.trans hp2 hf)
    · refine ⟨e', H', h3, hge', hne', h4, fun ρ B w a Q hR hE hf hQ => ?_⟩
      rw [List.length_cons, List.range'_succ]
      simp only [wpOps, hk]
      rw [gsel_eq hE ops o hg]
      exact h5 ρ B w _ Q hR (hE.put (.flat flat_undef) o.dst) hf hQ

/- RESULTS -/

def resSem (tmps : Array Value) : ResultVar → Sem Value
  | .tmp t => pure (tmps.getD t undef)
  | .cell b t => do loadVar t (← asAddr (tmps.getD b undef))

theorem res1_ok {H : AH} {e : Env} {x : ResultVar} {v : Value} (h1 : resA H e (compRes P x) = some v) {ρ : Ren} {B : Nat} {w : World} {a : Act} (hR : Rel ρ B H w) (hE : ERel ρ e a) : ∃ v', (resSem a.tmps x).run P w = .ok v' w ∧ VR ρ v v' := by
  cases x with
  | tmp t => cases h1; exact ⟨_, rfl, hE.get t⟩
  | cell b t =>
    simp only [compRes] at h1
    split at h1
    · rename_i ti d hti htd
      cases hd : isAggD d with
      | true =>
        rw [hd, cond_true] at h1
        simp only [resA] at h1
        rcases loadNA_cases H ti.size (e.get b) with h0 | ⟨y, h0⟩
        · rw [h0] at h1; cases h1
        · rw [h0] at h1
          cases h1
          obtain ⟨p, y', g1, g2, g3⟩ := loadN_run hR htd hti hd (hE.get b) h0
          exact ⟨y', by simp only [resSem, g1]; simp [asAddr, g2], g3⟩
      | false =>
        rw [hd, cond_false] at h1
        simp only [resA] at h1
        rcases load1A_cases H (e.get b) with h0 | ⟨y, h0⟩
        · rw [h0] at h1; cases h1
        · rw [h0] at h1
          cases h1
          obtain ⟨p, y', g1, g2, g3⟩ := load1_run hR htd hd (hE.get b) h0
          exact ⟨y', by simp only [resSem, g1]; simp [asAddr, g2], g3⟩
    · cases h1

theorem results_ok {H : AH} {e : Env} : ∀ (l : List ResultVar) (vs : List Value), resultsA P H e l = some vs → ∀ (ρ : Ren) (B : Nat) (w : World) (a : Act), Rel ρ B H w → ERel ρ e a →
    ∃ vs', (l.mapM (resSem a.tmps)).run P w = .ok vs' w ∧ VRL ρ vs vs' := by
  intro l
  induction l with
  | nil => intro vs h ρ B w a _ _; cases h; exact ⟨[], by simp, .nil ρ⟩
  | cons x r ih =>
    intro vs h ρ B w a hR hE
    simp only [resultsA] at h
    split at h
    · rename_i v l h1 h2
      cases h
      obtain ⟨vs', h3, h4⟩ := ih l h2 ρ B w a hR hE
      obtain ⟨v', h5, h6⟩ := res1_ok h1 hR hE
      refine ⟨v' :: vs', ?_, .cons h6 h4⟩
      rw [List.mapM_cons]
      simp only [Sem.run_bind, h5, Result.andThen_ok, h3, Sem.run_pure]
    · cases h

theorem oneOrTuple_rel {ρ : Ren} {vs vs' : List Value} (h : VRL ρ vs vs') : VR ρ (oneOrTuple vs) (if h : vs'.toArray.size = 1 then vs'.toArray[0] else .tuple vs'.toArray) := by
  cases vs with
  | nil => rw [h.unnil]; exact .flat rfl
  | cons v r =>
    obtain ⟨v', r', rfl, h1, h2⟩ := h.uncons
    cases r with
    | nil => rw [h2.unnil]; exact h1
    | cons v2 r2 =>
      obtain ⟨v2', r2', rfl, h3, h4⟩ := h2.uncons
      have : ¬ (v' :: v2' :: r2').toArray.size = 1 := by simp
      rw [dif_neg this]
      exact .tuple_mk (by simpa using h)

theorem results_run {H : AH} {e : Env} {fn : Func} {vs : List Value} (h : resultsA P H e fn.results.toList = some vs) {ρ : Ren} {B : Nat} {w : World} {a : Act} (hR : Rel ρ B H w) (hE : ERel ρ e a) :
    ∃ v', (results fn a.tmps).run P w = .ok v' w ∧ VR ρ (oneOrTuple vs) v' := by
  obtain ⟨vs', h1, h2⟩ := results_ok fn.results.toList vs h ρ B w a hR hE
  refine ⟨_, ?_, oneOrTuple_rel h2⟩
  have e1 : (fun x => match x with
    | ResultVar.tmp t => pure (a.tmps.getD t undef)
    | ResultVar.cell b t => (do loadVar t (← asAddr (a.tmps.getD b undef)) : Sem Value)) = resSem a.tmps := by funext x; cases x <;> rfl
  unfold results
  rw [Array.mapM_eq_mapM_toList]
  show ((List.toArray <$> fn.results.toList.mapM (fun x => match x with
    | ResultVar.tmp t => pure (a.tmps.getD t undef)
    | ResultVar.cell b t => (do loadVar t (← asAddr (a.tmps.getD b undef)) : Sem Value))) >>= fun vs => pure (if h : vs.size = 1 then vs[0] else .tuple vs)).run P w = _
  rw [e1]
  simp only [bind_map_left, Sem.run_bind, h1, Result.andThen_ok]
  rfl

end
end Go.Den
