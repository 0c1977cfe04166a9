/-
  The law OutRuns answers true: it takes no argument, and its whole run is reckoned by the kernel, through a proved reckoner of the model. No condition.
-/
import Derived.Test.YtbpcageamcgehaaRows
import Derived.Test.YtbpcageamcgehaaE2Y
import Derived.WalkKit
import Derived.ProofKit
import Derived.OpenShut
import Derived.JoinedOf
import Derived.JoinedAt
namespace Go.Proofs.Ytbpcageamcgehaa.outRuns
open Go.ChangeShapes Go.WideShapes Go.ChangeAt Go.RowKit

theorem own : ownKnob Try.prog.godebug = none := by kernel_rfl

theorem mixed : Try.prog.follows .mixedOrders = true := by kernel_rfl

def cfg : Go.Den.Cfg where
  raw := fun f => bif ([35] : List Nat).any (fun k => Nat.beq k f) then (true, true) else (false, false)
  own := fun f => !(([16, 30, 31, 35, 45, 50] : List Nat).any (fun k => Nat.beq k f))
  live := fun _ _ => none
  glob := fun _ => none
  know := Go.Den.noKnow

theorem run : Go.Den.retTrue (Go.Den.den Try.prog cfg 2000 (.call 4 []) Go.Den.AH0) = true := by kernel_rfl

theorem walk (w : World) : Calls Try.prog 4 #[] w fun e w' => e = .returned (.bool true) ∧ w.keptBut w' (fun _ => False) :=
  Go.Den.true_calls (cfg := cfg) Go.Den.noKnow_ok mixed rfl run w

set_option maxRecDepth 100000 in
theorem lifted (os : Os) (started : os.Started) (H : Type) (enc : TypeId × Value → H) :
    ReturnsInHanded {} Try.checked os 4 .any (Rows.outRunsSpec.pre6 enc Try.prog Try.f4 Rows.outRunsRow.domain false) (Rows.outRunsSpec.post enc Try.prog Try.f4 false true false false) := by
  refine returnsInHanded_of_change (C := Try.checked) own started (by kernel_rfl) Try.func4
    (ChangeSpec.witness6 (enc := enc) (C := Try.checked) false ⟨#[], #[], []⟩ 8 (by kernel_rfl) (by kernel_rfl) (by kernel_rfl) (by kernel_rfl)) ?_
  intro W base args ds gs before hval hW _ _
  have hW' := hW
  obtain ⟨p, q, hA0, hV, rfl, hfz, hnd⟩ := hW
  have hA : DataW.TrodAll enc Try.prog W 0 (fun _ => true) true Try.f4.params.toList args.toList ds p := hA0
  rw [Try.params4] at hA
  obtain ⟨hargs, rfl, rfl⟩ := trodAll_nil hA
  obtain rfl : args = #[] := by cases args; simp_all
  obtain ⟨rfl, rfl⟩ := trodVars_none hV
  refine (walk W).mono fun e W' ⟨he, hg⟩ => ?_
  subst he
  exact ⟨_, rfl, Go.Den.post_kept (pa := []) (pv := []) hW' (fun _ _ _ => (trodAll_cons_mk (shut_bool Try.underlying4 _) trodAll_mk0)) (fun sp _ => trodAll_mk0) (fun _ _ => rfl) rfl hg⟩

theorem over : Rows.outRunsRow.holds Try.pinned (OpenSpec.ofChange Rows.outRunsSpec) :=
  OpenClaim.holds_of_wide 4 Try.f4 rfl rfl rfl rfl rfl rfl rfl ⟨rfl, rfl, rfl, rfl, rfl⟩ rfl rfl rfl rfl rfl (by kernel_rfl) Try.func4 (by kernel_rfl)
    (of_decide_eq_true (by kernel_rfl)) (by unfold Func.isWrapper; first | (rw [if_pos (by decide +kernel)]; kernel_rfl) | (rw [if_neg (by decide +kernel)]; exact ⟨rfl, rfl⟩))
    (fun os started H enc _ => lifted os started H enc)

theorem proved : Rows.OutRunsSaid :=
  over
end Go.Proofs.Ytbpcageamcgehaa.outRuns
