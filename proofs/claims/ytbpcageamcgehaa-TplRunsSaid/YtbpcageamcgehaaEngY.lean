/-
  THE ENGINE, part Y: from the abstract run to a row: calls whose arguments hold no address.
-/
import Derived.Test.YtbpcageamcgehaaEngX
import Derived.ChangeSame
namespace Go.Den
noncomputable section

variable {P : Program}

def H0 : AH := { n := 0, t := .leaf }

theorem get_H0 (id : Nat) : H0.get id = none := rfl

theorem rel_H0 (w : World) : Rel (fun _ _ => none) w.heap.size H0 w :=
  ⟨fun _ _ _ _ h => (by cases h), fun _ _ h => (by cases h), fun _ _ h => (by cases h), fun _ _ _ _ _ _ h => (by cases h), fun _ _ _ h => (by cases h), Nat.le_refl _⟩

theorem Ext.kept {ρ ρ' : Ren} {H' : AH} {w w' : World} (h : Ext ρ H0 w ρ' H' w') : w.keptBut w' (fun _ => False) := by
  refine ⟨h.same.1, h.same.2, fun i hi => ?_⟩
  have := h.frame i hi fun id ver l hs => by rw [get_H0] at hs; cases hs
  rw [this]
  cases hq : w.heap[i]? with
  | none => rfl
  | some o => cases o <;> first | exact ⟨rfl, rfl, rfl, fun _ _ => rfl⟩ | exact .inr ⟨rfl, rfl⟩ | rfl

/-- Arguments with no address, a result with no address. -/
theorem flat_calls (hm : P.follows .mixedOrders = true) {n : Nat} {f : FuncId} {args : List Value} {H' : AH} {v : Value} (h : den P n (.call f args) H0 = some (.val v, H')) (ha : ∀ x ∈ args, flat x = true) (hv : flat v = true) (w : World) {args' : Array Value} (he : args'.toList = args) :
    Calls P f args' w fun e w' => e = .returned v ∧ w.keptBut w' (fun _ => False) := by
  refine (den_calls hm h (rel_H0 w) (by rw [he]; exact VRL.flat ha) fun _ _ _ _ => rfl).mono ?_
  rintro e w' ⟨ρ', v', rfl, h1, h2⟩
  rw [h1.of_flat hv]
  exact ⟨rfl, h2.ext.kept⟩

def retTrue : Option (Out × AH) → Bool
  | some (.val (.bool true), _) => true
  | _ => false

theorem retTrue_spec {r : Option (Out × AH)} (h : retTrue r = true) : ∃ H', r = some (.val (.bool true), H') := by
  unfold retTrue at h
  split at h
  · exact ⟨_, rfl⟩
  · cases h

theorem true_calls (hm : P.follows .mixedOrders = true) {n : Nat} {f : FuncId} {args : List Value} (h : retTrue (den P n (.call f args) H0) = true) (ha : ∀ x ∈ args, flat x = true) (w : World) {args' : Array Value} (he : args'.toList = args) :
    Calls P f args' w fun e w' => e = .returned (.bool true) ∧ w.keptBut w' (fun _ => False) := by
  obtain ⟨H', h⟩ := retTrue_spec h
  exact flat_calls hm h ha rfl w he

/-- What was there is as it was: the row's closing, where the form doesn't ask for a second reading. -/
theorem post_kept {H : Type} {enc : TypeId × Value → H} {f : Func} {s : ChangeSpec} {apart fresh handsOn : Bool} {W W' : World} {args : Array Value} {v : Value} {ds gs : List (DataW H)} {before pa pv : List MemPlace}
    (hW : DataW.Whole enc P f.params.toList s.vars apart W args.toList ds gs before)
    (hres : ∀ (b : Nat) (sp : Nat → Bool) (hd : Bool), DataW.TrodAll enc P W' b sp hd f.resultTypes.toList (v.resultList f.resultTypes.size) (s.fn H (ds ++ gs)).results [])
    (hargs : ∀ sp : Nat → Bool, (∀ p ∈ before, sp p.block = true) → DataW.TrodAll enc P W' 0 sp true f.params.toList args.toList (s.fn H (ds ++ gs)).args pa)
    (hvars : ∀ sp : Nat → Bool, (∀ p ∈ before, sp p.block = true) → DataW.TrodVars enc P W' sp s.vars (s.fn H (ds ++ gs)).vars pv)
    (hps : before = pa ++ pv) (hk : W.keptBut W' (fun _ => False)) : s.post enc P f apart fresh handsOn false W args v W' := by
  have hold : ∀ p ∈ before, (fun b => decide (b < W.heap.size)) p.block = true := fun p hp => by simpa using hW.lt p hp
  exact ⟨ds, gs, before, [], pa, pv, hW, hres _ _ _, hargs _ hold, hvars _ hold, World.keptBut_mono (fun p hp => hp.elim) hk, fun h => by cases h⟩

end
end Go.Den
