/-
  The law BsetRanges answers true at any three bytes: its run is reckoned at unknown bytes, by the proved reckoner of the model. No condition.
-/
import Derived.Test.YtloljgnmmbndgaaRows
import Derived.Test.YtloljgnmmbndgaaBL3
import Derived.Test.YtloljgnmmbndgaaE3R
import Derived.WalkKit
import Derived.ProofKit
import Derived.OpenShut
import Derived.JoinedOf
import Derived.JoinedAt
namespace Go.Proofs.Ytloljgnmmbndgaa.bsetRanges
open Go.ChangeShapes Go.WideShapes Go.ChangeAt Go.RowKit
open Go.ChangeMaps (open_string)

theorem own : ownKnob Try.prog.godebug = none := by kernel_rfl

theorem laidOut : laidOutB Try.prog = true := by kernel_rfl

theorem byteT : Try.prog.underlying 5 = some (.int .u8) := by kernel_rfl

set_option maxHeartbeats 2000000 in
set_option maxRecDepth 100000 in
theorem lifted (os : Os) (started : os.Started) (H : Type) (enc : TypeId × Value → H) :
    ReturnsInHanded {} Try.checked os 7 .any (Rows.bsetRangesSpec.pre6 enc Try.prog Try.f7 Rows.bsetRangesRow.domain false) (Rows.bsetRangesSpec.post enc Try.prog Try.f7 false true false false) := by
  refine returnsInHanded_of_change (C := Try.checked) own started (by kernel_rfl) Try.func7
    (ChangeSpec.witness6 (enc := enc) (C := Try.checked) false ⟨#[], #[.int .u8 0, .int .u8 0, .int .u8 0], []⟩ 8 (by kernel_rfl) (by kernel_rfl) (by kernel_rfl) (by kernel_rfl)) ?_
  intro W base args ds gs before hval hW _ _
  have hW' := hW
  obtain ⟨p, q, hA0, hV, rfl, hfz, hnd⟩ := hW
  obtain ⟨rfl, rfl⟩ := trodVars_none hV
  have hA : DataW.TrodAll enc Try.prog W 0 (fun _ => true) true Try.f7.params.toList args.toList ds p := hA0
  rw [Try.params7] at hA
  obtain ⟨v0, l0, d0, m0, p0, q0, e0, rfl, rfl, h0, hA1⟩ := trodAll_cons hA
  obtain ⟨v1, l1, d1, m1, p1, q1, rfl, rfl, rfl, h1, hA2⟩ := trodAll_cons hA1
  obtain ⟨v2, l2, d2, m2, p2, q2, rfl, rfl, rfl, h2, hA3⟩ := trodAll_cons hA2
  obtain ⟨rfl, rfl, rfl⟩ := trodAll_nil hA3
  obtain ⟨l⟩ := args
  subst e0
  obtain ⟨x0, rfl, rfl, rfl, w0⟩ := open_int byteT (hval 0 5 v0 rfl rfl) h0
  obtain ⟨x1, rfl, rfl, rfl, w1⟩ := open_int byteT (hval 1 5 v1 rfl rfl) h1
  obtain ⟨x2, rfl, rfl, rfl, w2⟩ := open_int byteT (hval 2 5 v2 rfl rfl) h2
  obtain ⟨y0, rfl, u0⟩ := Go.Den.byte_of w0
  obtain ⟨y1, rfl, u1⟩ := Go.Den.byte_of w1
  obtain ⟨y2, rfl, u2⟩ := Go.Den.byte_of w2
  refine (Go.Den.law_calls hknow mixed rfl (ev_BsetRanges y0 y1 y2 u0 u1 u2) rfl W #[Go.Den.byteV y0, Go.Den.byteV y1, Go.Den.byteV y2] (.cons (.flat rfl) (.cons (.flat rfl) (.cons (.flat rfl) (.nil _))))).mono fun e W' ⟨he, _, hb, ho, hp⟩ => ?_
  subst he
  exact ⟨_, rfl, Go.Den.law_post laidOut hW' rfl ⟨_, rfl, Try.underlying4⟩ (by kernel_rfl) rfl hb ho hp⟩

theorem over : Rows.bsetRangesRow.holds Try.pinned (OpenSpec.ofChange Rows.bsetRangesSpec) :=
  OpenClaim.holds_of_wide 7 Try.f7 rfl rfl rfl rfl rfl rfl rfl ⟨rfl, rfl, rfl, rfl, rfl⟩ rfl rfl rfl rfl rfl (by kernel_rfl) Try.func7 (by kernel_rfl)
    (of_decide_eq_true (by kernel_rfl)) (by unfold Func.isWrapper; first | (rw [if_pos (by decide +kernel)]; kernel_rfl) | (rw [if_neg (by decide +kernel)]; exact ⟨rfl, rfl⟩))
    (fun os started H enc _ => lifted os started H enc)

theorem proved : Rows.BsetRangesSaid :=
  over
#print axioms proved
end Go.Proofs.Ytloljgnmmbndgaa.bsetRanges
