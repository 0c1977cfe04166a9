/-
  The law BsetTells answers true of any sets, any bytes, any name: its run is reckoned at unknown values, by the proved reckoner of the model. No condition.
-/
import Derived.Test.YtjihbfdbgamcdaaQBsetTells7
import Derived.Test.YtjihbfdbgamcdaaRows
import Derived.WalkKit
import Derived.ProofKit
import Derived.OpenShut
import Derived.JoinedOf
import Derived.JoinedAt
namespace Go.Proofs.Ytjihbfdbgamcdaa.bsetTells
open Go.ChangeShapes Go.WideShapes Go.ChangeAt Go.RowKit
open Go.ChangeMaps (open_string)
theorem own : ownKnob Try.prog.godebug = none := by kernel_rfl
theorem laidOut : laidOutB Try.prog = true := by kernel_rfl
theorem intT : Try.prog.underlying 3 = some (.int .i64) := by kernel_rfl
theorem byteT : Try.prog.underlying 5 = some (.int .u8) := by kernel_rfl
theorem arr : Go.WideMaps.ArrKey Try.prog 43 41 4 := ⟨by kernel_rfl, by kernel_rfl, by kernel_rfl, by kernel_rfl⟩
theorem word : Try.prog.underlying 41 = some (.int .u64) := by kernel_rfl
set_option maxHeartbeats 2000000 in
set_option maxRecDepth 100000 in
theorem lifted (os : Os) (started : os.Started) (H : Type) (enc : TypeId × Value → H) :
    ReturnsInHanded {} Try.checked os 9 .any (Rows.bsetTellsSpec.pre6 enc Try.prog Try.f9 Rows.bsetTellsRow.domain false) (Rows.bsetTellsSpec.post enc Try.prog Try.f9 false true false false) := by
  refine returnsInHanded_of_change (C := Try.checked) own started (by kernel_rfl) Try.func9
    (ChangeSpec.witness6 (enc := enc) (C := Try.checked) false ⟨#[], #[Go.Den.setV 0, .slice none 0 0, .int .u8 0, .int .u8 0, .string .empty], []⟩ 8 (by kernel_rfl) (by kernel_rfl) (by kernel_rfl) (by kernel_rfl)) ?_
  intro W base args ds gs before hval hW _ _
  have hW' := hW
  obtain ⟨p, q, hA0, hV, rfl, hfz, hnd⟩ := hW
  obtain ⟨rfl, rfl⟩ := trodVars_none hV
  have hA : DataW.TrodAll enc Try.prog W 0 (fun _ => true) true Try.f9.params.toList args.toList ds p := hA0
  rw [Try.params9] at hA
  obtain ⟨v0, l0, d0, m0, p0, q0, e0, rfl, rfl, h0, hA1⟩ := trodAll_cons hA
  obtain ⟨v1, l1, d1, m1, p1, q1, rfl, rfl, rfl, h1, hA2⟩ := trodAll_cons hA1
  obtain ⟨v2, l2, d2, m2, p2, q2, rfl, rfl, rfl, h2, hA3⟩ := trodAll_cons hA2
  obtain ⟨v3, l3, d3, m3, p3, q3, rfl, rfl, rfl, h3, hA4⟩ := trodAll_cons hA3
  obtain ⟨v4, l4, d4, m4, p4, q4, rfl, rfl, rfl, h4, hA5⟩ := trodAll_cons hA4
  obtain ⟨rfl, rfl, rfl⟩ := trodAll_nil hA5
  obtain ⟨l⟩ := args
  subst e0
  obtain ⟨s0, rfl⟩ := Go.Den.open_set arr word (hval 0 43 v0 rfl rfl) h0
  obtain ⟨L, hL, w1⟩ := Go.Den.woob Try.underlying79 byteT (by kernel_rfl) (hval 1 79 v1 rfl rfl) h1
  obtain ⟨x2, rfl, rfl, rfl, w2⟩ := open_int byteT (hval 2 5 v2 rfl rfl) h2
  obtain ⟨y2, rfl, u2⟩ := Go.Den.byte_of w2
  obtain ⟨x3, rfl, rfl, rfl, w3⟩ := open_int byteT (hval 3 5 v3 rfl rfl) h3
  obtain ⟨y3, rfl, u3⟩ := Go.Den.byte_of w3
  obtain ⟨x4, rfl, rfl, rfl, w4⟩ := open_string Try.underlying9 (hval 4 9 v4 rfl rfl) h4
  refine (Go.Den.wgzb wog mixed rfl (Go.Den.wzbb.1 (wvcb s0 L hL y2 y3 u2 u3 x4.data.toList)) rfl W #[Go.Den.setV s0, v1, Go.Den.byteV y2, Go.Den.byteV y3, .string x4] (.cons (.flat rfl) (.cons w1 (.cons (.flat rfl) (.cons (.flat rfl) (.cons (.flat rfl) (.nil _))))))).mono fun e W' ⟨he, _, hb, ho, hp⟩ => ?_
  subst he
  exact ⟨_, rfl, Go.Den.law_post laidOut hW' rfl ⟨_, rfl, Try.underlying4⟩ (by kernel_rfl) rfl hb ho hp⟩
theorem over : Rows.bsetTellsRow.holds Try.pinned (OpenSpec.ofChange Rows.bsetTellsSpec) :=
  OpenClaim.holds_of_wide 9 Try.f9 rfl rfl rfl rfl rfl rfl rfl ⟨rfl, rfl, rfl, rfl, rfl⟩ rfl rfl rfl rfl rfl (by kernel_rfl) Try.func9 (by kernel_rfl)
    (of_decide_eq_true (by kernel_rfl)) (by unfold Func.isWrapper; first | (rw [if_pos (by decide +kernel)]; kernel_rfl) | (rw [if_neg (by decide +kernel)]; exact ⟨rfl, rfl⟩))
    (fun os started H enc _ => lifted os started H enc)
theorem proved : Rows.BsetTellsSaid :=
  over
#print axioms proved
end Go.Proofs.Ytjihbfdbgamcdaa.bsetTells
