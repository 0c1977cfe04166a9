/-
  THE ENGINE, part Y: from the abstract run to contracts and rows.
-/
import Derived.Test.YtjihbfdbgamcdaaGreatDoorE2X
import Derived.ChangeSame
namespace Go.Den
noncomputable section

variable {P : Program}

def ren0 : Ren := ⟨fun _ _ => none, fun _ _ => none⟩

theorem rel_quiet (ρ : Ren) (w : World) (hl : ∀ id ver, ρ id ver = none) (hc : ∀ b i x, ρ.cell b i = some x → w.cell? ⟨b, i, none⟩ = some x) : Rel ρ 0 AH0 w :=
  ⟨fun id ver l b h => (by rw [hl] at h; cases h), fun _ _ h => (by cases h), fun _ _ h => (by cases h), fun id ver l id' ver' l' h => (by rw [hl] at h; cases h), fun id ver l h => (by rw [hl] at h; cases h), Nat.zero_le _, ⟨hc, fun id ver l i v b h => (by rw [hl] at h; cases h)⟩⟩

/-- A run at no heap: what there was stays; the answer may hold new cells. -/
theorem quiet_calls {cfg : Cfg} (hknow : KnowOK P cfg.glob cfg.know) (hm : P.follows .mixedOrders = true) {n : Nat} {f : FuncId} {a : List Value} {H' : AH} {v : Value} (h : den P cfg n (.call f a) AH0 = some (.val v, H'))
    (ρ : Ren) (w : World) (args' : Array Value) (hc : ∀ b i x, ρ.cell b i = some x → w.cell? ⟨b, i, none⟩ = some x) (hG : GOK cfg.glob ρ) (hA : VRL ρ.noloc a args'.toList) :
    Calls P f args' w fun e w' => ∃ ρ' v', e = .returned v' ∧ VR ρ' v v' ∧ (∀ b i x, ρ.cell b i = some x → ρ'.cell b i = some x) ∧ (∀ b i x, ρ'.cell b i = some x → ρ.cell b i = some x ∨ w.heap.size ≤ b) ∧
      (∀ b i x, ρ'.cell b i = some x → w'.cell? ⟨b, i, none⟩ = some x) ∧ w.heap.size ≤ w'.heap.size ∧ (∀ b : Nat, b < w.heap.size → w'.heap[b]? = w.heap[b]?) ∧ w'.os = w.os ∧ w'.output = w.output := by
  obtain ⟨v0, e0, _, hcall⟩ := den_calls hknow hm h
  cases e0
  refine (hcall ρ.noloc 0 w args' (rel_quiet _ w (fun _ _ => rfl) hc) (hG.cells fun b i v h => h) (fun _ _ _ => rfl) hA).mono ?_
  rintro e w' ⟨ρ', v', rfl, h1, h2, _, h3⟩
  refine ⟨ρ', v', rfl, h1, h3.cell, fun b i x hx => ?_, h2.fz.cell, h3.size, fun b hb => h3.frame b hb fun id ver l hl => (by cases hl), h3.same.1, h3.same.2⟩
  rcases h3.cells b i x hx with h4 | h4 | ⟨id, ver, l, h4, _⟩
  · exact .inl h4
  · exact .inr h4
  · cases h4

/-- What a run tells is known. -/
theorem known_of_den {cfg : Cfg} (hknow : KnowOK P cfg.glob cfg.know) (hm : P.follows .mixedOrders = true) {n : Nat} {f : FuncId} {a : List Value} {H' : AH} {v : Value} (h : den P cfg n (.call f a) AH0 = some (.val v, H'))
    (ha : noRefsL a = true) (hv : noRefs v = true) : KnownOK P cfg.glob f a v := by
  intro ρ w args' hc hG hA
  have hA' : VRL ρ.noloc a args'.toList := ⟨hA.1, fun i u u' e e' => VR.reloc (ρ := ρ) (ρ2 := ρ.noloc) (fun b i x h => h) (hA.2 i u u' e e') ((noRefsL_iff a).1 ha u (List.mem_of_getElem? e))⟩
  refine (quiet_calls hknow hm h ρ w args' hc hG hA').mono ?_
  rintro e w' ⟨ρ', v', rfl, h1, h2, h3, h4, h5, h6, h7, h8⟩
  exact ⟨⟨ρ.loc, ρ'.cell⟩, v', rfl, VR.reloc (ρ := ρ') (ρ2 := ⟨ρ.loc, ρ'.cell⟩) (fun b i x h => h) h1 hv, fun _ _ => rfl, h2, h3, h4, h5, h6, h7, h8⟩

/-- Is it a row without elements? -/
def isNo : Value → Bool
  | .slice none 0 _ => true
  | .func (.yield 0) ⟨[]⟩ ⟨[]⟩ => true
  | _ => false

def noRes : Option (Out × AH) → Bool
  | some (.val v, _) => isNo v
  | _ => false

theorem isNo_rel {ρ : Ren} {v v' : Value} (h : isNo v = true) (hr : VR ρ v v') : ∃ a c, v' = .slice a 0 c := by
  unfold isNo at h
  split at h
  · have := hr.of_flat rfl; exact ⟨_, _, this⟩
  · exact hr.list_len
  · cases h

/-- A function that gives for a row without elements one without elements: for each kind of them. -/
theorem known_no {cfg : Cfg} (hknow : KnowOK P cfg.glob cfg.know) (hm : P.follows .mixedOrders = true) {n : Nat} {f : FuncId} (h1 : ∀ c, noRes (den P cfg n (.call f [.slice none 0 c]) AH0) = true)
    (h2 : noRes (den P cfg n (.call f [.slice (some ⟨0, 0, none⟩) 0 0]) AH0) = true) : KnownOK P cfg.glob f [FL 0 []] (FL 0 []) := by
  have spec : ∀ {r : Option (Out × AH)}, noRes r = true → ∃ v H, r = some (.val v, H) ∧ isNo v = true := by
    intro r hr
    unfold noRes at hr
    split at hr
    · exact ⟨_, _, rfl, hr⟩
    · cases hr
  intro ρ w args' hc hG hA
  obtain ⟨x, r, hx, hx1, hx2⟩ := hA.uncons
  have hr := hx2.unnil
  subst hr
  obtain ⟨a', c', rfl⟩ := hx1.list_len
  have fin : ∀ {a : List Value}, VRL ρ.noloc a args'.toList → noRes (den P cfg n (.call f a) AH0) = true → Calls P f args' w fun e w' => ∃ ρ' v', e = .returned v' ∧ VR ρ' (FL 0 []) v' ∧ (∀ id ver, ρ' id ver = ρ id ver) ∧ (∀ b i x, ρ.cell b i = some x → ρ'.cell b i = some x) ∧ (∀ b i x, ρ'.cell b i = some x → ρ.cell b i = some x ∨ w.heap.size ≤ b) ∧
      (∀ b i x, ρ'.cell b i = some x → w'.cell? ⟨b, i, none⟩ = some x) ∧ w.heap.size ≤ w'.heap.size ∧ (∀ b : Nat, b < w.heap.size → w'.heap[b]? = w.heap[b]?) ∧ w'.os = w.os ∧ w'.output = w.output := by
    intro a hA2 hres
    obtain ⟨v, H, hd, hn⟩ := spec hres
    refine (quiet_calls hknow hm hd ρ w args' hc hG hA2).mono ?_
    rintro e w' ⟨ρ', v', rfl, g1, g2, g3, g4, g5, g6, g7, g8⟩
    obtain ⟨a2, c2, rfl⟩ := isNo_rel hn g1
    exact ⟨⟨ρ.loc, ρ'.cell⟩, _, rfl, .listNo, fun _ _ => rfl, g2, g3, g4, g5, g6, g7, g8⟩
  cases a' with
  | none => exact fin (a := [.slice none 0 c']) (by rw [hx]; exact .cons (.flat rfl) (.nil _)) (h1 c')
  | some a' => exact fin (a := [.slice (some ⟨0, 0, none⟩) 0 0]) (by rw [hx]; exact .cons .sliceEmpty (.nil _)) h2

def noKnow : FuncId → Option (List Value → Option Value) := fun _ => none

theorem noKnow_ok {G : Nat → Option (List Value)} : KnowOK P G noKnow := fun f g a v h => (by cases h)

/-- Functions that give for a row without elements one without elements. -/
def knowNo (l : List FuncId) (know : FuncId → Option (List Value → Option Value)) : FuncId → Option (List Value → Option Value) := fun f =>
  bif l.any (fun k => Nat.beq k f) then some (fun a => match a with
    | [v] => bif isFL0 v then some (FL 0 []) else none
    | _ => none) else know f
where isFL0 : Value → Bool
  | .func (.yield 0) ⟨[]⟩ ⟨[]⟩ => true
  | _ => false

theorem knowNo_ok {G : Nat → Option (List Value)} {l : List FuncId} {know : FuncId → Option (List Value → Option Value)} (h : ∀ f ∈ l, KnownOK P G f [FL 0 []] (FL 0 [])) (hk : KnowOK P G know) : KnowOK P G (knowNo l know) := by
  intro f g a v hf hg
  unfold knowNo at hf
  cases hq : l.any (fun k => Nat.beq k f) with
  | false => rw [hq, cond_false] at hf; exact hk f g a v hf hg
  | true =>
    rw [hq, cond_true] at hf
    cases hf
    simp only [List.any_eq_true] at hq
    obtain ⟨k, hk1, hk2⟩ := hq
    have := Nat.eq_of_beq_eq_true hk2
    subst this
    simp only at hg
    split at hg
    · rename_i x
      cases hx : knowNo.isFL0 x with
      | false => rw [hx, cond_false] at hg; cases hg
      | true =>
        rw [hx, cond_true] at hg
        cases hg
        unfold knowNo.isFL0 at hx
        split at hx
        · exact h _ hk1
        · cases hx
    · cases hg

/- A TABLE OF WHAT IS KNOWN -/

def findTab : List (FuncId × List Value × Value) → FuncId → List Value → Option Value
  | [], _, _ => none
  | (k, b, v) :: r, f, a => bif Nat.beq k f && beqL b a then some v else findTab r f a

/-- Single calls that are known. -/
def knowTab (l : List (FuncId × List Value × Value)) (know : FuncId → Option (List Value → Option Value)) : FuncId → Option (List Value → Option Value) := fun f =>
  bif l.any (fun k => Nat.beq k.1 f) then some (findTab l f) else know f

theorem findTab_spec : ∀ (l : List (FuncId × List Value × Value)) (f : FuncId) (a : List Value) (v : Value), findTab l f a = some v → (f, a, v) ∈ l := by
  intro l
  induction l with
  | nil => intro f a v h; cases h
  | cons e l ih =>
    obtain ⟨k, b, u⟩ := e
    intro f a v h
    simp only [findTab] at h
    cases hq : (Nat.beq k f && beqL b a) with
    | true =>
      rw [hq, cond_true] at h
      cases h
      simp only [Bool.and_eq_true] at hq
      have h1 := Nat.eq_of_beq_eq_true hq.1
      have h2 := beqL_eq _ _ hq.2
      rw [h1, h2]
      simp
    | false =>
      rw [hq, cond_false] at h
      exact List.mem_cons_of_mem _ (ih f a v h)

theorem knowTab_ok {G : Nat → Option (List Value)} {l : List (FuncId × List Value × Value)} {know : FuncId → Option (List Value → Option Value)} (h : ∀ e ∈ l, KnownOK P G e.1 e.2.1 e.2.2) (hk : KnowOK P G know) : KnowOK P G (knowTab l know) := by
  intro f g a v hf hg
  unfold knowTab at hf
  cases hq : l.any (fun k => Nat.beq k.1 f) with
  | false => rw [hq, cond_false] at hf; exact hk f g a v hf hg
  | true =>
    rw [hq, cond_true] at hf
    cases hf
    exact h _ (findTab_spec _ _ _ _ hg)

/-- Does a run come to this value? -/
def isVal (v : Value) : Option (Out × AH) → Bool
  | some (.val u, _) => beqV v u
  | _ => false

theorem isVal_spec {v : Value} {r : Option (Out × AH)} (h : isVal v r = true) : ∃ H', r = some (.val v, H') := by
  unfold isVal at h
  split at h
  · rename_i u H'
    rw [beqV_eq _ _ h]
    exact ⟨H', rfl⟩
  · cases h

/-- One call, reckoned by the kernel. -/
theorem known_of_run {cfg : Cfg} (hknow : KnowOK P cfg.glob cfg.know) (hm : P.follows .mixedOrders = true) {n : Nat} {f : FuncId} {a : List Value} {v : Value} (h : isVal v (den P cfg n (.call f a) AH0) = true) (ha : noRefsL a = true) (hv : noRefs v = true) : KnownOK P cfg.glob f a v := by
  obtain ⟨H', h⟩ := isVal_spec h
  exact known_of_den hknow hm h ha hv

/- ROWS -/

theorem kept_of {w w' : World} (hs : ∀ b : Nat, b < w.heap.size → w'.heap[b]? = w.heap[b]?) (ho : w'.os = w.os) (hp : w'.output = w.output) : w.keptBut w' (fun _ => False) := by
  refine ⟨ho, hp, fun i hi => ?_⟩
  rw [hs i hi]
  cases hq : w.heap[i]? with
  | none => rfl
  | some o => cases o <;> first | exact ⟨rfl, rfl, rfl, fun _ _ => rfl⟩ | exact .inr ⟨rfl, rfl⟩ | rfl

def retTrue : Option (Out × AH) → Bool
  | some (.val (.bool true), _) => true
  | _ => false

theorem retTrue_spec {r : Option (Out × AH)} (h : retTrue r = true) : ∃ H', r = some (.val (.bool true), H') := by
  unfold retTrue at h
  split at h
  · exact ⟨_, rfl⟩
  · cases h

theorem gok_none (ρ : Ren) : GOK (fun _ => none) ρ := fun _ => .junk

/-- A closed law that answers true: known to. -/
theorem known_true {cfg : Cfg} (hknow : KnowOK P cfg.glob cfg.know) (hm : P.follows .mixedOrders = true) {n : Nat} {f : FuncId} (h : retTrue (den P cfg n (.call f []) AH0) = true) : KnownOK P cfg.glob f [] (.bool true) := by
  obtain ⟨H', h⟩ := retTrue_spec h
  exact known_of_den hknow hm h rfl rfl

/-- What is known, as a row asks for it: the arguments are frozen ones. -/
theorem calls_of_known {G : Nat → Option (List Value)} {f : FuncId} {a : List Value} (h : KnownOK P G f a (.bool true)) (ρ : Ren) (w : World) (args' : Array Value) (hc : ∀ b i x, ρ.cell b i = some x → w.cell? ⟨b, i, none⟩ = some x) (hG : GOK G ρ) (hA : VRL ρ a args'.toList) :
    Calls P f args' w fun e w' => e = .returned (.bool true) ∧ w.keptBut w' (fun _ => False) := by
  refine (h ρ w args' hc hG hA).mono ?_
  rintro e w' ⟨ρ', v', rfl, h1, _, _, _, _, _, h2, h3, h4⟩
  rw [h1.bool_inv]
  exact ⟨rfl, kept_of h2 h3 h4⟩

theorem true_calls {cfg : Cfg} (hknow : KnowOK P cfg.glob cfg.know) (hm : P.follows .mixedOrders = true) (hg : cfg.glob = fun _ => none) {n : Nat} {f : FuncId} (h : retTrue (den P cfg n (.call f []) AH0) = true) (w : World) :
    Calls P f #[] w fun e w' => e = .returned (.bool true) ∧ w.keptBut w' (fun _ => False) :=
  calls_of_known (known_true hknow hm h) ren0 w #[] (fun _ _ _ h => (by cases h)) (by rw [hg]; exact gok_none _) (.nil _)

/-- What was there is as it was: the row's closing, where the form doesn't ask for a second reading. -/
theorem post_kept {H : Type} {enc : TypeId × Value → H} {f : Func} {s : ChangeSpec} {apart fresh handsOn : Bool} {W W' : World} {args : Array Value} {v : Value} {ds gs : List (DataW H)} {before pa pv : List MemPlace}
    (hW : DataW.Whole enc P f.params.toList s.vars apart W args.toList ds gs before)
    (hres : ∀ (b : Nat) (sp : Nat → Bool) (hd : Bool), DataW.TrodAll enc P W' b sp hd f.resultTypes.toList (v.resultList f.resultTypes.size) (s.fn H (ds ++ gs)).results [])
    (hargs : ∀ sp : Nat → Bool, (∀ p ∈ before, sp p.block = true) → DataW.TrodAll enc P W' 0 sp true f.params.toList args.toList (s.fn H (ds ++ gs)).args pa)
    (hvars : ∀ sp : Nat → Bool, (∀ p ∈ before, sp p.block = true) → DataW.TrodVars enc P W' sp s.vars (s.fn H (ds ++ gs)).vars pv)
    (hps : before = pa ++ pv) (hk : W.keptBut W' (fun _ => False)) : s.post enc P f apart fresh handsOn false W args v W' := by
  have hold : ∀ p ∈ before, (fun b => decide (b < W.heap.size)) p.block = true := fun p hp => by simpa using hW.lt p hp
  exact ⟨ds, gs, before, [], pa, pv, hW, hres _ _ _, hargs _ hold, hvars _ hold, World.keptBut_mono (fun p hp => hp.elim) hk, fun h => by cases h⟩

end
end Go.Den
