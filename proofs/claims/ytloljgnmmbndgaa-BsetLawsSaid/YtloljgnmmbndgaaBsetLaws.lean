/-
  The law BsetLaws answers true at any three sets: its run is reckoned at unknown sets, by the proved reckoner of the model. No condition.
-/
import Derived.Test.YtloljgnmmbndgaaRows
import Derived.Test.YtloljgnmmbndgaaBL2
import Derived.Test.YtloljgnmmbndgaaE3R
import Derived.WalkKit
import Derived.ProofKit
import Derived.OpenShut
import Derived.JoinedOf
import Derived.JoinedAt
namespace Go.Proofs.Ytloljgnmmbndgaa.bsetLaws
open Go.ChangeShapes Go.WideShapes Go.ChangeAt Go.RowKit
open Go.ChangeMaps (open_string)

theorem own : ownKnob Try.prog.godebug = none := by kernel_rfl

theorem laidOut : laidOutB Try.prog = true := by kernel_rfl

theorem arr : Go.WideMaps.ArrKey Try.prog 24 22 4 := ⟨by kernel_rfl, by kernel_rfl, by kernel_rfl, by kernel_rfl⟩
theorem word : Try.prog.underlying 22 = some (.int .u64) := by kernel_rfl

set_option maxRecDepth 100000 in
theorem lifted (os : Os) (started : os.Started) (H : Type) (enc : TypeId × Value → H) :
    ReturnsInHanded {} Try.checked os 5 .any (Rows.bsetLawsSpec.pre6 enc Try.prog Try.f5 Rows.bsetLawsRow.domain false) (Rows.bsetLawsSpec.post enc Try.prog Try.f5 false true false false) := by
  refine returnsInHanded_of_change (C := Try.checked) own started (by kernel_rfl) Try.func5
    (ChangeSpec.witness6 (enc := enc) (C := Try.checked) false ⟨#[], #[Go.Den.setV 0, Go.Den.setV 0, Go.Den.setV 0], []⟩ 8 (by kernel_rfl) (by kernel_rfl) (by kernel_rfl) (by kernel_rfl)) ?_
  intro W base args ds gs before hval hW _ _
  have hW' := hW
  obtain ⟨p, q, hA0, hV, rfl, hfz, hnd⟩ := hW
  obtain ⟨rfl, rfl⟩ := trodVars_none hV
  have hA : DataW.TrodAll enc Try.prog W 0 (fun _ => true) true Try.f5.params.toList args.toList ds p := hA0
  rw [Try.params5] at hA
  obtain ⟨v0, l0, d0, m0, p0, q0, e0, rfl, rfl, h0, hA1⟩ := trodAll_cons hA
  obtain ⟨v1, l1, d1, m1, p1, q1, rfl, rfl, rfl, h1, hA2⟩ := trodAll_cons hA1
  obtain ⟨v2, l2, d2, m2, p2, q2, rfl, rfl, rfl, h2, hA3⟩ := trodAll_cons hA2
  obtain ⟨rfl, rfl, rfl⟩ := trodAll_nil hA3
  obtain ⟨l⟩ := args
  subst e0
  obtain ⟨s0, rfl⟩ := Go.Den.open_set arr word (hval 0 24 v0 rfl rfl) h0
  obtain ⟨s1, rfl⟩ := Go.Den.open_set arr word (hval 1 24 v1 rfl rfl) h1
  obtain ⟨s2, rfl⟩ := Go.Den.open_set arr word (hval 2 24 v2 rfl rfl) h2
  refine (Go.Den.law_calls hknow mixed rfl (ev_BsetLaws s0 s1 s2) rfl W #[Go.Den.setV s0, Go.Den.setV s1, Go.Den.setV s2] (.cons (.flat rfl) (.cons (.flat rfl) (.cons (.flat rfl) (.nil _))))).mono fun e W' ⟨he, _, hb, ho, hp⟩ => ?_
  subst he
  exact ⟨_, rfl, Go.Den.law_post laidOut hW' rfl ⟨_, rfl, Try.underlying4⟩ (by kernel_rfl) rfl hb ho hp⟩

theorem over : Rows.bsetLawsRow.holds Try.pinned (OpenSpec.ofChange Rows.bsetLawsSpec) :=
  OpenClaim.holds_of_wide 5 Try.f5 rfl rfl rfl rfl rfl rfl rfl ⟨rfl, rfl, rfl, rfl, rfl⟩ rfl rfl rfl rfl rfl (by kernel_rfl) Try.func5 (by kernel_rfl)
    (of_decide_eq_true (by kernel_rfl)) (by unfold Func.isWrapper; first | (rw [if_pos (by decide +kernel)]; kernel_rfl) | (rw [if_neg (by decide +kernel)]; exact ⟨rfl, rfl⟩))
    (fun os started H enc _ => lifted os started H enc)

theorem proved : Rows.BsetLawsSaid :=
  over
#print axioms proved
end Go.Proofs.Ytloljgnmmbndgaa.bsetLaws
