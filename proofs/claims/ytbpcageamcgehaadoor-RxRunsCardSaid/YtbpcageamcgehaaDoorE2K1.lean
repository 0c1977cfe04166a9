/-
  THE ENGINE, part K1: library functions that are known: out of the shelf's contracts.
-/
import Derived.Test.YtbpcageamcgehaaDoorE2Y
import Derived.Below
import Derived.Lib.Join
import Derived.Lib.Itoa
namespace Go.Den
noncomputable section

variable {P : Program} {G : Nat → Option (List Value)}

/-- A call that lays nothing and answers with a plain value. -/
theorem known_flat {f : FuncId} {a : List Value} {v : Value} (hv : flat v = true)
    (h : ∀ (ρ : Ren) (w : World) (args' : Array Value), (∀ b i x, ρ.cell b i = some x → w.cell? ⟨b, i, none⟩ = some x) → GOK G ρ → VRL ρ a args'.toList →
      Calls P f args' w fun e w' => e = .returned v ∧ w.heap.size ≤ w'.heap.size ∧ (∀ b : Nat, b < w.heap.size → w'.heap[b]? = w.heap[b]?) ∧ w'.os = w.os ∧ w'.output = w.output) : KnownOK P G f a v := by
  intro ρ w args' hc hG hA
  refine (h ρ w args' hc hG hA).mono ?_
  rintro e w' ⟨rfl, h1, h2, h3, h4⟩
  refine ⟨ρ, v, rfl, .flat hv, fun _ _ => rfl, fun _ _ _ h => h, fun _ _ _ h => .inl h, fun b i x hx => ?_, h1, h2, h3, h4⟩
  have h5 := hc b i x hx
  have h6 := h2 b (cell_lt h5)
  unfold World.cell? at h5 ⊢
  simp only at h5 ⊢
  rw [h6]; exact h5

/- JOIN -/

def strsOf : List Value → Option (List ByteArray)
  | [] => some []
  | .string s :: r => match strsOf r with
    | some l => some (s :: l)
    | none => none
  | _ => none

theorem strsOf_spec : ∀ (cs : List Value) (xs : List ByteArray), strsOf cs = some xs → cs = xs.map .string := by
  intro cs
  induction cs with
  | nil => intro xs h; cases h; rfl
  | cons v r ih =>
    intro xs h
    cases v with
    | string s =>
      simp only [strsOf] at h
      cases hq : strsOf r with
      | none => rw [hq] at h; cases h
      | some l => rw [hq] at h; cases h; simp [ih l hq]
    | _ => simp [strsOf] at h

def joinOf (n : Nat) (sep : ByteArray) : Option (List ByteArray) → Option Value
  | some xs => bif Nat.beq xs.length n && (Nat.ble n 140737488355328 && Nat.ble (Lib.join (xs.map (·.data.toList)) sep.data.toList).length 140737488355328) then some (.string ⟨(Lib.join (xs.map (·.data.toList)) sep.data.toList).toArray⟩) else none
  | none => none

def joinK : List Value → Option Value
  | [.func (.yield n) ⟨cs⟩ ⟨[]⟩, .string sep] => joinOf n sep (strsOf cs)
  | _ => none

theorem known_join {f : FuncId} (h0 : ∀ (a : Option Addr) (c : Nat) (sep : ByteArray) (w : World), Calls P f #[.slice a 0 c, .string sep] w fun e w' => e = .returned (.string ⟨#[]⟩) ∧ w' = w)
    (h1 : ∀ (bk o c : Nat) (xs : List ByteArray) (sep : ByteArray) (w : World), (∀ (j : Nat) x, xs[j]? = some x → w.cell? ⟨bk, o + j, none⟩ = some (.string x)) → bk < w.heap.size → xs.length ≤ 140737488355328 → xs.length ≤ c → (Lib.join (xs.map (·.data.toList)) sep.data.toList).length ≤ 140737488355328 →
      Calls P f #[.slice (some ⟨bk, o, none⟩) xs.length c, .string sep] w fun e w' => e = .returned (.string ⟨(Lib.join (xs.map (·.data.toList)) sep.data.toList).toArray⟩) ∧ RowKit.Below w.heap.size w w') :
    ∀ a v, joinK a = some v → KnownOK P G f a v := by
  intro a v h
  unfold joinK at h
  split at h
  · rename_i n cs sep
    unfold joinOf at h
    split at h
    · rename_i xs hxs
      cases hq : (Nat.beq xs.length n && (Nat.ble n 140737488355328 && Nat.ble (Lib.join (xs.map (·.data.toList)) sep.data.toList).length 140737488355328)) with
      | false => rw [hq, cond_false] at h; cases h
      | true =>
        rw [hq, cond_true] at h
        cases h
        simp only [Bool.and_eq_true, Nat.beq_eq, Nat.ble_eq] at hq
        obtain ⟨hn, hn2, hl⟩ := hq
        subst hn
        have hcs := strsOf_spec _ _ hxs
        refine known_flat rfl fun ρ w args' hc hG hA => ?_
        obtain ⟨x, r, hx, hx1, hx2⟩ := hA.uncons
        obtain ⟨y, r2, hy, hy1, hy2⟩ := hx2.uncons
        have hr := hy2.unnil
        subst hr
        subst hy
        have hy3 := hy1.of_flat rfl
        subst hy3
        have hargs : args' = #[x, .string sep] := by cases args'; simp_all
        rcases hx1.list_inv with ⟨a', c', h2, h3, rfl⟩ | ⟨b, o, c', g, rfl, h2, h3, h4⟩
        · have hxs0 : xs = [] := List.length_eq_zero_iff.1 h2
          subst hxs0
          rw [hargs]
          refine (h0 a' c' sep w).mono ?_
          rintro e w' ⟨rfl, rfl⟩
          exact ⟨rfl, Nat.le_refl _, fun _ _ => rfl, rfl, rfl⟩
        · rw [hargs]
          have hcell : ∀ (j : Nat) x, xs[j]? = some x → w.cell? ⟨b, o + j, none⟩ = some (.string x) := by
            intro j x hj
            have hj2 : cs[j]? = some (.string x) := by rw [hcs, List.getElem?_map, hj]; rfl
            have h5 := (h4 j _ hj2).of_flat rfl
            have hlt : j < cs.length := by
              rcases Nat.lt_or_ge j cs.length with h | h
              · exact h
              · rw [List.getElem?_eq_none h] at hj2; cases hj2
            rw [hc _ _ _ (h3 j hlt), h5]
          by_cases hz : xs = []
          · subst hz
            refine (h0 (some ⟨b, o, none⟩) c' sep w).mono ?_
            rintro e w' ⟨rfl, rfl⟩
            exact ⟨rfl, Nat.le_refl _, fun _ _ => rfl, rfl, rfl⟩
          · have hbk : b < w.heap.size := by
              cases xs with
              | nil => exact absurd rfl hz
              | cons x0 r0 => exact cell_lt (hcell 0 x0 rfl)
            refine (h1 b o c' xs sep w hcell hbk hn2 h2 hl).mono ?_
            rintro e w' ⟨rfl, hB⟩
            exact ⟨rfl, hB.size, fun i hi => hB.block i hi, hB.os, hB.output⟩
    · cases h
  · cases h

/-- One more function that is known. -/
def knowFn (k : FuncId) (g : List Value → Option Value) (know : FuncId → Option (List Value → Option Value)) : FuncId → Option (List Value → Option Value) := fun f => bif Nat.beq k f then some g else know f

theorem knowFn_ok {k : FuncId} {g : List Value → Option Value} {know : FuncId → Option (List Value → Option Value)} (h : ∀ a v, g a = some v → KnownOK P G k a v) (hk : KnowOK P G know) : KnowOK P G (knowFn k g know) := by
  intro f g2 a v hf hg
  unfold knowFn at hf
  cases hq : Nat.beq k f with
  | false => rw [hq, cond_false] at hf; exact hk f g2 a v hf hg
  | true =>
    rw [hq, cond_true] at hf
    cases hf
    have := Nat.eq_of_beq_eq_true hq
    subst this
    exact h a v hg

end
end Go.Den
