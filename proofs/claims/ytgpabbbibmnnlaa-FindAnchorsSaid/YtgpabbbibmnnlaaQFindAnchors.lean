/-
  The law FindAnchors answers true of any text: its run is reckoned at unknown values, by the proved reckoner of the model. No condition.
-/
import Derived.Test.YtgpabbbibmnnlaaQFindAnchors7
import Derived.Test.YtgpabbbibmnnlaaRows
import Derived.WalkKit
import Derived.ProofKit
import Derived.OpenShut
import Derived.JoinedOf
import Derived.JoinedAt
namespace Go.Proofs.Ytgpabbbibmnnlaa.findAnchors
open Go.ChangeShapes Go.WideShapes Go.ChangeAt Go.RowKit
open Go.ChangeMaps (open_string)
theorem own : ownKnob Try.prog.godebug = none := by kernel_rfl
theorem laidOut : laidOutB Try.prog = true := by kernel_rfl
theorem intT : Try.prog.underlying 3 = some (.int .i64) := by kernel_rfl
set_option maxHeartbeats 2000000 in
set_option maxRecDepth 100000 in
theorem lifted (os : Os) (started : os.Started) (H : Type) (enc : TypeId × Value → H) :
    ReturnsInHanded {} Try.checked os 6 .any (Rows.findAnchorsSpec.pre6 enc Try.prog Try.f6 Rows.findAnchorsRow.domain false) (Rows.findAnchorsSpec.post enc Try.prog Try.f6 false true false false) := by
  refine returnsInHanded_of_change (C := Try.checked) own started (by kernel_rfl) Try.func6
    (ChangeSpec.witness6 (enc := enc) (C := Try.checked) false ⟨#[], #[.slice none 0 0], []⟩ 8 (by kernel_rfl) (by kernel_rfl) (by kernel_rfl) (by kernel_rfl)) ?_
  intro W base args ds gs before hval hW _ _
  have hW' := hW
  obtain ⟨p, q, hA0, hV, rfl, hfz, hnd⟩ := hW
  obtain ⟨rfl, rfl⟩ := trodVars_none hV
  have hA : DataW.TrodAll enc Try.prog W 0 (fun _ => true) true Try.f6.params.toList args.toList ds p := hA0
  rw [Try.params6] at hA
  obtain ⟨v0, l0, d0, m0, p0, q0, e0, rfl, rfl, h0, hA1⟩ := trodAll_cons hA
  obtain ⟨rfl, rfl, rfl⟩ := trodAll_nil hA1
  obtain ⟨l⟩ := args
  subst e0
  obtain ⟨x0, w0⟩ := Go.Den.wrbc Try.underlying39 intT (by kernel_rfl) (hval 0 39 v0 rfl rfl) h0
  refine (Go.Den.wqbc weh mixed rfl (Go.Den.waeb.1 (www x0)) rfl W #[v0] (.cons w0 (.nil _))).mono fun e W' ⟨he, _, hb, ho, hp⟩ => ?_
  subst he
  exact ⟨_, rfl, Go.Den.law_post laidOut hW' rfl ⟨_, rfl, Try.underlying4⟩ (by kernel_rfl) rfl hb ho hp⟩
theorem over : Rows.findAnchorsRow.holds Try.pinned (OpenSpec.ofChange Rows.findAnchorsSpec) :=
  OpenClaim.holds_of_wide 6 Try.f6 rfl rfl rfl rfl rfl rfl rfl ⟨rfl, rfl, rfl, rfl, rfl⟩ rfl rfl rfl rfl rfl (by kernel_rfl) Try.func6 (by kernel_rfl)
    (of_decide_eq_true (by kernel_rfl)) (by unfold Func.isWrapper; first | (rw [if_pos (by decide +kernel)]; kernel_rfl) | (rw [if_neg (by decide +kernel)]; exact ⟨rfl, rfl⟩))
    (fun os started H enc _ => lifted os started H enc)
theorem proved : Rows.FindAnchorsSaid :=
  over
#print axioms proved
end Go.Proofs.Ytgpabbbibmnnlaa.findAnchors
