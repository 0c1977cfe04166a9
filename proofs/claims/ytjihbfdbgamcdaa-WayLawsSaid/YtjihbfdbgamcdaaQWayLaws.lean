/-
  The law WayLaws answers true of any numbers and any text: its run is reckoned at unknown values, by the proved reckoner of the model. No condition.
-/
import Derived.Test.YtjihbfdbgamcdaaQWayLaws8
import Derived.Test.YtjihbfdbgamcdaaRows
import Derived.WalkKit
import Derived.ProofKit
import Derived.OpenShut
import Derived.JoinedOf
import Derived.JoinedAt
namespace Go.Proofs.Ytjihbfdbgamcdaa.wayLaws
open Go.ChangeShapes Go.WideShapes Go.ChangeAt Go.RowKit
open Go.ChangeMaps (open_string)
theorem own : ownKnob Try.prog.godebug = none := by kernel_rfl
theorem laidOut : laidOutB Try.prog = true := by kernel_rfl
theorem intT : Try.prog.underlying 3 = some (.int .i64) := by kernel_rfl
set_option maxHeartbeats 2000000 in
set_option maxRecDepth 100000 in
theorem lifted (os : Os) (started : os.Started) (H : Type) (enc : TypeId × Value → H) :
    ReturnsInHanded {} Try.checked os 7 .any (Rows.wayLawsSpec.pre6 enc Try.prog Try.f7 Rows.wayLawsRow.domain false) (Rows.wayLawsSpec.post enc Try.prog Try.f7 false true false false) := by
  refine returnsInHanded_of_change (C := Try.checked) own started (by kernel_rfl) Try.func7
    (ChangeSpec.witness6 (enc := enc) (C := Try.checked) false ⟨#[], #[.agg #[.slice none 0 0, .slice none 0 0], .agg #[.slice none 0 0, .slice none 0 0], .slice none 0 0, .int .i64 0], []⟩ 8 (by kernel_rfl) (by kernel_rfl) (by kernel_rfl) (by kernel_rfl)) ?_
  intro W base args ds gs before hval hW _ _
  have hW' := hW
  obtain ⟨p, q, hA0, hV, rfl, hfz, hnd⟩ := hW
  obtain ⟨rfl, rfl⟩ := trodVars_none hV
  have hA : DataW.TrodAll enc Try.prog W 0 (fun _ => true) true Try.f7.params.toList args.toList ds p := hA0
  rw [Try.params7] at hA
  obtain ⟨v0, l0, d0, m0, p0, q0, e0, rfl, rfl, h0, hA1⟩ := trodAll_cons hA
  obtain ⟨v1, l1, d1, m1, p1, q1, rfl, rfl, rfl, h1, hA2⟩ := trodAll_cons hA1
  obtain ⟨v2, l2, d2, m2, p2, q2, rfl, rfl, rfl, h2, hA3⟩ := trodAll_cons hA2
  obtain ⟨v3, l3, d3, m3, p3, q3, rfl, rfl, rfl, h3, hA4⟩ := trodAll_cons hA3
  obtain ⟨rfl, rfl, rfl⟩ := trodAll_nil hA4
  obtain ⟨l⟩ := args
  subst e0
  obtain ⟨x0, z0, w0⟩ := Go.Den.wiub Try.underlying40 rfl rfl (by kernel_rfl) (by kernel_rfl) (by kernel_rfl) Try.underlying38 Try.underlying38 intT (by kernel_rfl) (by kernel_rfl) (hval 0 40 v0 rfl rfl) h0
  obtain ⟨x1, z1, w1⟩ := Go.Den.wiub Try.underlying40 rfl rfl (by kernel_rfl) (by kernel_rfl) (by kernel_rfl) Try.underlying38 Try.underlying38 intT (by kernel_rfl) (by kernel_rfl) (hval 1 40 v1 rfl rfl) h1
  obtain ⟨x2, w2⟩ := Go.Den.whlc Try.underlying38 intT (by kernel_rfl) (hval 2 38 v2 rfl rfl) h2
  obtain ⟨x3, rfl, rfl, rfl, w3⟩ := open_int intT (hval 3 3 v3 rfl rfl) h3
  refine (Go.Den.wflc wxl mixed rfl (Go.Den.wmlb.1 (wzzb x0 z0 x1 z1 x2 x3)) rfl W #[v0, v1, v2, .int .i64 x3] (.cons w0 (.cons w1 (.cons w2 (.cons (.flat rfl) (.nil _)))))).mono fun e W' ⟨he, _, hb, ho, hp⟩ => ?_
  subst he
  exact ⟨_, rfl, Go.Den.law_post laidOut hW' rfl ⟨_, rfl, Try.underlying4⟩ (by kernel_rfl) rfl hb ho hp⟩
theorem over : Rows.wayLawsRow.holds Try.pinned (OpenSpec.ofChange Rows.wayLawsSpec) :=
  OpenClaim.holds_of_wide 7 Try.f7 rfl rfl rfl rfl rfl rfl rfl ⟨rfl, rfl, rfl, rfl, rfl⟩ rfl rfl rfl rfl rfl (by kernel_rfl) Try.func7 (by kernel_rfl)
    (of_decide_eq_true (by kernel_rfl)) (by unfold Func.isWrapper; first | (rw [if_pos (by decide +kernel)]; kernel_rfl) | (rw [if_neg (by decide +kernel)]; exact ⟨rfl, rfl⟩))
    (fun os started H enc _ => lifted os started H enc)
theorem proved : Rows.WayLawsSaid :=
  over
#print axioms proved
end Go.Proofs.Ytjihbfdbgamcdaa.wayLaws
