/-
  THE ENGINE, part X: what the abstract run gives, the machine gives.
-/
import Derived.Test.YtbpcageamcgehaaEngW
import Derived.LoopN
namespace Go.Den
noncomputable section

variable {P : Program}

theorem wpm {c : Code} {Q Q' : Exit → Act → World → Prop} {a : Act} {w : World} (h : c.wp P Q a w) (hq : ∀ e a w, Q e a w → Q' e a w) : c.wp P Q' a w :=
  fun b k cs => let ⟨e, a', w', q, arr⟩ := h b k cs; ⟨e, a', w', hq _ _ _ q, arr⟩

theorem rounds_mono {c : Code} {Q Q' : Exit → Act → World → Prop} (hq : ∀ e a w, Q e a w → Q' e a w) : ∀ (n : Nat) (a : Act) (w : World), Code.rounds P c Q n a w → Code.rounds P c Q' n a w := by
  intro n
  induction n with
  | zero => intro a w h; exact h
  | succ n ih =>
    intro a w h
    refine wpm h fun e a w he => ?_
    cases e with
    | normal => exact ih a w he
    | _ => exact hq _ _ _ he

theorem runsN_wp {n : Nat} {Q : Exit → Act → World → Prop} {a : Act} {w : World} {c : Code} (h : runsN P n Q a w c) : c.wp P Q a w := by
  cases c with
  | loop c => exact wp_loop_rounds n h
  | _ => exact h

theorem CodeOK.wp {c : Code} {e e' : Env} {H H' : AH} {x : AExit} (h : CodeOK P c e H x e' H') {ρ : Ren} {B : Nat} {w : World} {a : Act} (hR : Rel ρ B H w) (hE : ERel ρ e a) (hf : Free ρ H.n H'.n) : c.wp P (CodePost ρ B H w x e' H') a w := by
  obtain ⟨n, h⟩ := h.2
  exact runsN_wp (h ρ B w a hR hE hf)

/-- A text that is no loop. -/
theorem CodeOK.mk {c : Code} {e e' : Env} {H H' : AH} {x : AExit} (hc : ∀ d, c ≠ .loop d) (hn : H.n ≤ H'.n) (h : ∀ (ρ : Ren) (B : Nat) (w : World) (a : Act), Rel ρ B H w → ERel ρ e a → Free ρ H.n H'.n → c.wp P (CodePost ρ B H w x e' H') a w) : CodeOK P c e H x e' H' := by
  refine ⟨hn, 0, fun ρ B w a h1 h2 h3 => ?_⟩
  cases c with
  | loop d => exact absurd rfl (hc d)
  | _ => exact h ρ B w a h1 h2 h3

theorem CodePost.next {ρ ρ1 : Ren} {B : Nat} {H H1 H' : AH} {w w1 : World} {x : AExit} {e' : Env} {a2 : Act} {w2 : World} {ex : Exit} (hp : Post ρ B H w ρ1 H1 w1) (hf : Free ρ H.n H'.n) (h : CodePost ρ1 B H1 w1 x e' H' ex a2 w2) : CodePost ρ B H w x e' H' ex a2 w2 := by
  obtain ⟨h1, ρ2, h2, h3⟩ := h
  exact ⟨h1, ρ2, h2, hp.trans h3 hf⟩

/-- One behind the other. -/
theorem seqK_cases {rec : Rec} (hrec : RecOK P rec) {c d : Code} {e : Env} {H H' : AH} {o : Out} (h : seqK (fun e' H' => rec (.code d e') H') (rec (.code c e) H) = some (o, H')) :
    (∃ e1 H1 x e', CodeOK P c e H .normal e1 H1 ∧ o = .code x e' ∧ CodeOK P d e1 H1 x e' H') ∨ (∃ x e', x ≠ .normal ∧ o = .code x e' ∧ CodeOK P c e H x e' H') := by
  cases hq : rec (.code c e) H with
  | none => rw [hq] at h; cases h
  | some r =>
    obtain ⟨o1, H1⟩ := r
    rw [hq] at h
    have h1 := hrec _ _ _ _ hq
    cases o1 with
    | val v => exact h1.elim
    | code x e1 =>
      cases x with
      | normal =>
        simp only [seqK] at h
        have h2 := hrec _ _ _ _ h
        cases o with
        | val v => exact h2.elim
        | code x e' => exact .inl ⟨e1, H1, x, e', h1, rfl, h2⟩
      | _ => simp only [seqK, Option.some.injEq, Prod.mk.injEq] at h; obtain ⟨rfl, rfl⟩ := h; exact .inr ⟨_, e1, (fun h => by cases h), rfl, h1⟩

theorem exit_then {Q : Exit → Act → World → Prop} {K : Act → World → Prop} {x : AExit} (hx : x ≠ .normal) {a : Act} {w : World} (h : Q (exitOf x) a w) : Exit.then K Q (exitOf x) a w := by
  cases x with
  | normal => exact absurd rfl hx
  | _ => exact h

theorem codeA_ok {rec : Rec} (hrec : RecOK P rec) (hm : P.follows .mixedOrders = true) {c : Code} {e : Env} {H H' : AH} {o : Out} (h : codeA P rec e H c = some (o, H')) : ∃ x e', o = .code x e' ∧ CodeOK P c e H x e' H' := by
  cases c with
  | skip => cases h; exact ⟨_, _, rfl, .mk (fun d h => by cases h) (Nat.le_refl _) fun ρ B w a hR hE _ => wp_skip ⟨rfl, ρ, hE, .refl hR⟩⟩
  | label l => cases h; exact ⟨_, _, rfl, .mk (fun d h => by cases h) (Nat.le_refl _) fun ρ B w a hR hE _ => wp_label ⟨rfl, ρ, hE, .refl hR⟩⟩
  | ret => cases h; exact ⟨_, _, rfl, .mk (fun d h => by cases h) (Nat.le_refl _) fun ρ B w a hR hE _ => wp_ret ⟨rfl, ρ, hE, .refl hR⟩⟩
  | exit id => cases h; exact ⟨_, _, rfl, .mk (fun d h => by cases h) (Nat.le_refl _) fun ρ B w a hR hE _ => wp_exit ⟨rfl, ρ, hE, .refl hR⟩⟩
  | goto l => cases h; exact ⟨_, _, rfl, .mk (fun d h => by cases h) (Nat.le_refl _) fun ρ B w a hR hE _ => wp_goto ⟨rfl, ρ, hE, .refl hR⟩⟩
  | region id ops drawn =>
    cases drawn with
    | false =>
      simp only [codeA] at h
      cases hq : opsA P rec (compOps P ops ops.toList) e H with
      | none => rw [hq] at h; cases h
      | some r =>
        obtain ⟨e1, H1⟩ := r
        rw [hq] at h
        cases h
        obtain ⟨h1, h2⟩ := ops_ok hrec ops ops.toList 0 e H _ _ rfl hq
        refine ⟨_, _, rfl, .mk (fun d h => by cases h) h1 fun ρ B w a hR hE hf => wp_region ?_⟩
        have := h2 ρ B w a (CodePost ρ B H w .normal e1 H') hR hE hf fun ρ' a' w' h3 h4 => ⟨rfl, ρ', h3, h4⟩
        rw [List.range_eq_range', ← Array.length_toList]
        exact this
    | true =>
      simp only [codeA] at h
      cases hq : drawA P rec ops e H with
      | none => rw [hq] at h; cases h
      | some r =>
        obtain ⟨e1, H1⟩ := r
        rw [hq] at h
        cases h
        obtain ⟨h1, h2⟩ := draw_ok hrec hm id ops e H _ _ hq
        exact ⟨_, _, rfl, .mk (fun d h => by cases h) h1 fun ρ B w a hR hE hf => h2 ρ B w a (CodePost ρ B H w .normal e1 H') hR hE hf fun ρ' a' w' h3 h4 => ⟨rfl, ρ', h3, h4⟩⟩
  | seq c d =>
    rcases seqK_cases hrec h with ⟨e1, H1, x, e', h1, rfl, h2⟩ | ⟨x, e', hx, rfl, h1⟩
    · refine ⟨x, e', rfl, .mk (fun d h => by cases h) (Nat.le_trans h1.1 h2.1) fun ρ B w a hR hE hf => wp_seq ?_⟩
      refine wpm (h1.wp hR hE (hf.sub h2.1)) ?_
      rintro ex a1 w1 ⟨rfl, ρ1, h3, h4⟩
      refine wpm (h2.wp h4.rel h3 (hf.next hR.low h4.ext)) fun ex a2 w2 h5 => h5.next h4 hf
    · refine ⟨x, e', rfl, .mk (fun d h => by cases h) h1.1 fun ρ B w a hR hE hf => wp_seq ?_⟩
      refine wpm (h1.wp hR hE hf) ?_
      rintro ex a1 w1 ⟨rfl, ρ1, h3, h4⟩
      exact exit_then hx ⟨rfl, ρ1, h3, h4⟩
  | cond c x y =>
    simp only [codeA] at h
    cases hok : okOpd c with
    | false => rw [hok, cond_false] at h; cases h
    | true =>
      rw [hok, cond_true] at h
      have key : ∀ b, evl e c = .bool b → rec (.code (if b then x else y) e) H = some (o, H') → ∃ z e', o = .code z e' ∧ CodeOK P (.cond c x y) e H z e' H' := by
        intro b hb hr
        have h1 := hrec _ _ _ _ hr
        cases o with
        | val v => exact h1.elim
        | code z e' =>
          refine ⟨z, e', rfl, .mk (fun d h => by cases h) h1.1 fun ρ B w a hR hE hf => ?_⟩
          have hv := evl_rel hE c hok
          rw [hb] at hv
          have hc : a.eval c = .bool b := hv.of_flat rfl
          exact wp_cond hc (h1.wp hR hE hf)
      unfold condK at h
      split at h
      · rename_i hb; exact key true hb h
      · rename_i hb; exact key false hb h
      · cases h
  | block id c =>
    simp only [codeA] at h
    cases hq : rec (.code c e) H with
    | none => rw [hq] at h; cases h
    | some r =>
      obtain ⟨o1, H1⟩ := r
      rw [hq] at h
      have h1 := hrec _ _ _ _ hq
      cases o1 with
      | val v => exact h1.elim
      | code x e1 =>
        have other : (∀ j, x ≠ .exit j) → o = .code x e1 → H' = H1 → ∃ z e', o = .code z e' ∧ CodeOK P (.block id c) e H z e' H' := by
          intro hx ho hH
          subst hH
          refine ⟨x, e1, ho, .mk (fun d h => by cases h) h1.1 fun ρ B w a hR hE hf => wp_block ?_⟩
          refine wpm (h1.wp hR hE hf) ?_
          rintro ex a1 w1 ⟨rfl, ρ1, h3, h4⟩
          cases x with
          | exit j => exact absurd rfl (hx j)
          | _ => exact ⟨rfl, ρ1, h3, h4⟩
        cases x with
        | exit j =>
          simp only [blockK] at h
          cases hj : Nat.beq j id with
          | true =>
            rw [hj, cond_true] at h
            cases h
            have hj := Nat.eq_of_beq_eq_true hj
            refine ⟨.normal, e1, rfl, .mk (fun d h => by cases h) h1.1 fun ρ B w a hR hE hf => wp_block ?_⟩
            refine wpm (h1.wp hR hE hf) ?_
            rintro ex a1 w1 ⟨rfl, ρ1, h3, h4⟩
            simp only [exitOf, Exit.inBlock, hj, if_true]
            exact ⟨rfl, ρ1, h3, h4⟩
          | false =>
            rw [hj, cond_false] at h
            cases h
            have hj : ¬ j = id := fun h => by rw [h] at hj; simp at hj
            refine ⟨.exit j, e1, rfl, .mk (fun d h => by cases h) h1.1 fun ρ B w a hR hE hf => wp_block ?_⟩
            refine wpm (h1.wp hR hE hf) ?_
            rintro ex a1 w1 ⟨rfl, ρ1, h3, h4⟩
            simp only [exitOf, Exit.inBlock, hj, if_false]
            exact ⟨rfl, ρ1, h3, h4⟩
        | normal => simp only [blockK, Option.some.injEq, Prod.mk.injEq] at h; exact other (fun j h => by cases h) h.1.symm h.2.symm
        | goto l => simp only [blockK, Option.some.injEq, Prod.mk.injEq] at h; exact other (fun j h => by cases h) h.1.symm h.2.symm
        | ret => simp only [blockK, Option.some.injEq, Prod.mk.injEq] at h; exact other (fun j h => by cases h) h.1.symm h.2.symm
  | loop c =>
    rcases seqK_cases hrec h with ⟨e1, H1, x, e', h1, rfl, h2⟩ | ⟨x, e', hx, rfl, h1⟩
    · obtain ⟨hn2, n, h2⟩ := h2
      refine ⟨x, e', rfl, Nat.le_trans h1.1 hn2, n + 1, fun ρ B w a hR hE hf => ?_⟩
      refine wpm (h1.wp hR hE (hf.sub hn2)) ?_
      rintro ex a1 w1 ⟨rfl, ρ1, h3, h4⟩
      exact rounds_mono (fun ex a2 w2 h5 => h5.next h4 hf) n _ _ (h2 ρ1 B w1 a1 h4.rel h3 (hf.next hR.low h4.ext))
    · refine ⟨x, e', rfl, h1.1, 1, fun ρ B w a hR hE hf => ?_⟩
      refine wpm (h1.wp hR hE hf) ?_
      rintro ex a1 w1 ⟨rfl, ρ1, h3, h4⟩
      exact exit_then hx ⟨rfl, ρ1, h3, h4⟩
  | _ => cases h

/- CALLS -/

theorem envOf_get : ∀ (l : List Value) (k : Nat) (t : T Value), okKey (k + l.length) = true → ∀ j, (envOf l k t).get j = if k ≤ j ∧ j < k + l.length then l[j - k]? else t.get j := by
  intro l
  induction l with
  | nil => intro k t _ j; rw [if_neg (by simp)]; rfl
  | cons v r ih =>
    intro k t hk j
    simp only [envOf]
    rw [List.length_cons] at hk
    rw [ih (k + 1) _ (by rw [show k + 1 + r.length = k + (r.length + 1) by omega]; exact hk), T.get_put' (okKey_lt hk (by omega))]
    by_cases h1 : j = k
    · subst h1
      rw [if_neg (by omega), if_pos rfl, if_pos (by simp)]
      simp
    · by_cases h2 : k + 1 ≤ j ∧ j < k + 1 + r.length
      · rw [if_pos h2, if_pos (by simp; omega), show j - k = (j - (k + 1)) + 1 by omega]
        simp
      · rw [if_neg h2, if_neg h1, if_neg (by simp; omega)]

theorem frame_rel {ρ : Ren} {args : List Value} {args' : Array Value} {n : Nat} (h : VRL ρ args args'.toList) (hl : args.length ≤ n) (hk : okKey n = true) :
    ERel ρ { n := n, t := envOf args 0 .leaf } { tmps := args' ++ Array.replicate (n - args'.size) undef, defers := [] } := by
  have hsz : args'.size = args.length := by rw [h.1]; simp
  refine ⟨rfl, by simp; omega, hk, fun k => ?_⟩
  simp only [Env.get]
  rw [envOf_get args 0 .leaf (by rw [Nat.zero_add]; exact okKey_lt hk hl)]
  by_cases h1 : k < args.length
  · rw [if_pos (by omega), Nat.sub_zero, List.getElem?_eq_getElem h1]
    have e1 : (args' ++ Array.replicate (n - args'.size) undef).getD k undef = args'[k] := by
      rw [Array.getD_eq_getD_getElem?, Array.getElem?_append_left (by omega), Array.getElem?_eq_getElem (by omega)]
      rfl
    simp only
    rw [e1]
    exact h.2 k _ _ (List.getElem?_eq_getElem h1) (by simp [hsz, h1])
  · rw [if_neg (by omega)]
    have e1 : (args' ++ Array.replicate (n - args'.size) undef).getD k undef = undef := by
      rw [Array.getD_eq_getD_getElem?, Array.getElem?_append_right (by omega)]
      by_cases h2 : k - args'.size < n - args'.size
      · simp [h2]
      · simp [h2]
    rw [e1]
    exact .flat flat_undef

theorem callA_ok {rec : Rec} (hrec : RecOK P rec) {f : FuncId} {args : List Value} {H H' : AH} {o : Out} (h : callA P rec args H P.funcs[f]? = some (o, H')) : ∃ v, o = .val v ∧ CallOK P f args H v H' := by
  cases hf : P.funcs[f]? with
  | none => rw [hf] at h; cases h
  | some fn =>
    rw [hf] at h
    simp only [callA] at h
    cases hb : fn.body with
    | none => rw [hb] at h; cases h
    | some c =>
      rw [hb] at h
      simp only at h
      cases hq : (Nat.ble args.length fn.ntmps && okKey fn.ntmps) with
      | false => rw [hq, cond_false] at h; cases h
      | true =>
        rw [hq, cond_true] at h
        simp only [Bool.and_eq_true] at hq
        have hl := Nat.le_of_ble_eq_true hq.1
        cases hr : rec (.code c { n := fn.ntmps, t := envOf args 0 .leaf }) H with
        | none => rw [hr] at h; cases h
        | some r =>
          obtain ⟨o1, H1⟩ := r
          rw [hr] at h
          have h1 := hrec _ _ _ _ hr
          cases o1 with
          | val v => exact h1.elim
          | code x e1 =>
            simp only [callK] at h
            cases hx : isEnd x with
            | false => rw [hx, cond_false] at h; cases h
            | true =>
              rw [hx, cond_true] at h
              cases hv : resultsA P H1 e1 fn.results.toList with
              | none => rw [hv] at h; cases h
              | some vs =>
                rw [hv] at h
                cases h
                refine ⟨_, rfl, h1.1, fun ρ B w args' hR hA hfree => calls_of_wp hf hb ?_⟩
                refine wpm (h1.wp hR (frame_rel hA hl hq.2) hfree) ?_
                rintro ex a1 w1 ⟨rfl, ρ1, h3, h4⟩
                obtain ⟨v', g1, g2⟩ := results_run hv h4.rel h3
                cases x with
                | normal => exact ⟨h3.defers, v', g1, ρ1, v', rfl, g2, h4⟩
                | ret => exact ⟨h3.defers, v', g1, ρ1, v', rfl, g2, h4⟩
                | _ => cases hx

theorem step_rec {rec : Rec} (hrec : RecOK P rec) (hm : P.follows .mixedOrders = true) : RecOK P (denStep P rec) := by
  intro t H o H' h
  cases t with
  | code c e =>
    obtain ⟨x, e', rfl, h1⟩ := codeA_ok hrec hm h
    exact h1
  | call f args =>
    obtain ⟨v, rfl, h1⟩ := callA_ok hrec h
    exact h1

theorem den_ok (hm : P.follows .mixedOrders = true) : ∀ n, RecOK P (den P n) := by
  intro n
  induction n with
  | zero => intro t H o H' h; cases h
  | succ n ih => exact step_rec ih hm

/-- THE ENGINE. -/
theorem den_calls (hm : P.follows .mixedOrders = true) {n : Nat} {f : FuncId} {args : List Value} {H H' : AH} {v : Value} (h : den P n (.call f args) H = some (.val v, H')) {ρ : Ren} {B : Nat} {w : World} {args' : Array Value}
    (hR : Rel ρ B H w) (hA : VRL ρ args args'.toList) (hf : Free ρ H.n H'.n) : Calls P f args' w fun e w' => ∃ ρ' v', e = .returned v' ∧ VR ρ' v v' ∧ Post ρ B H w ρ' H' w' :=
  ((den_ok hm n).call h).2 ρ B w args' hR hA hf

end
end Go.Den
