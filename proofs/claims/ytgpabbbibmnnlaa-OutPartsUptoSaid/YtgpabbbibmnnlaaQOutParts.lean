/-
  The law OutParts answers true where what it reads is of bulk at most 1048576.
-/
import Derived.Test.YtgpabbbibmnnlaaQOutParts6
import Derived.Test.YtgpabbbibmnnlaaRows
import Derived.WalkKit
import Derived.ProofKit
import Derived.OpenShut
import Derived.JoinedCond
import Derived.JoinedAt
namespace Go.Proofs.Ytgpabbbibmnnlaa.outParts
open Go.ChangeShapes Go.WideShapes Go.ChangeAt Go.RowKit
open Go.ChangeMaps (open_string)
theorem own : ownKnob Try.prog.godebug = none := by kernel_rfl
theorem laidOut : laidOutB Try.prog = true := by kernel_rfl
theorem intT : Try.prog.underlying 3 = some (.int .i64) := by kernel_rfl
theorem bulk_nt {H : Type} : ∀ L : List (Int × List UInt8), L.length + wqd L ≤ Rows.uptoBulkAll (L.map (Go.Den.ntW (H := H))) := by
  intro L
  induction L with
  | nil => simp [wqd]
  | cons p L ih =>
    have e : Rows.uptoBulk (Go.Den.ntW (H := H) p) = 1 + (p.2.length + 1 + 0) + 1 := by
      simp only [Go.Den.ntW, Rows.uptoBulk, Rows.uptoBulkAll]
    rw [List.map_cons, Rows.uptoBulkAll, e, List.length_cons, wag]
    omega
set_option maxHeartbeats 2000000 in
set_option maxRecDepth 100000 in
theorem lifted (os : Os) (started : os.Started) (H : Type) (enc : TypeId × Value → H) (F : Stop.Interp) :
    ReturnsInHanded {} Try.checked os 4 .any ((Rows.OpenSpec.upto Rows.outPartsSpec).pre6 enc Try.prog Try.f4 Rows.outPartsUptoRow.domain false) (((Rows.OpenSpec.upto Rows.outPartsSpec).at F).post enc Try.prog Try.f4 false true false false) := by
  refine returnsInHanded_of_cond (C := Try.checked) (s := Rows.OpenSpec.upto Rows.outPartsSpec) (k := Rows.uptoSmall) rfl own started (by kernel_rfl) Try.func4
    (OpenSpec.witness (enc := enc) (C := Try.checked) (s := Rows.OpenSpec.upto Rows.outPartsSpec) (k := Rows.uptoSmall) rfl false ⟨#[], #[.slice none 0 0, .int .i64 0, .int .i64 0], []⟩ 8 (by kernel_rfl) (by kernel_rfl) (by kernel_rfl)
      (x := ([.nil, .lit (.int .i64 0), .lit (.int .i64 0)], [], [])) (by kernel_rfl) rfl (by kernel_rfl)) ?_
  intro W base args ds gs before hval hW _ hk _
  have hW' := hW
  obtain ⟨p, q, hA0, hV, rfl, hfz, hnd⟩ := hW
  obtain ⟨rfl, rfl⟩ := trodVars_none hV
  have hA : DataW.TrodAll enc Try.prog W 0 (fun _ => true) true Try.f4.params.toList args.toList ds p := hA0
  rw [Try.params4] at hA
  obtain ⟨v0, l0, d0, m0, p0, q0, e0, rfl, rfl, h0, hA1⟩ := trodAll_cons hA
  obtain ⟨v1, l1, d1, m1, p1, q1, rfl, rfl, rfl, h1, hA2⟩ := trodAll_cons hA1
  obtain ⟨v2, l2, d2, m2, p2, q2, rfl, rfl, rfl, h2, hA3⟩ := trodAll_cons hA2
  obtain ⟨rfl, rfl, rfl⟩ := trodAll_nil hA3
  obtain ⟨l⟩ := args
  subst e0
  obtain ⟨L, w0, hL⟩ := Go.Den.wvsb Try.underlying22 Try.underlying25 rfl rfl (by kernel_rfl) (by kernel_rfl) (by kernel_rfl) intT Try.underlying9 (hval 0 22 v0 rfl rfl) h0
  obtain ⟨x1, rfl, rfl, rfl, w1⟩ := open_int intT (hval 1 3 v1 rfl rfl) h1
  obtain ⟨x2, rfl, rfl, rfl, w2⟩ := open_int intT (hval 2 3 v2 rfl rfl) h2
  have hb : wqd L ≤ 1048576 ∧ L.length ≤ 1048576 := by
    have hk1 := of_decide_eq_true hk
    rcases hL with ⟨_, rfl⟩ | ⟨rest, hL⟩
    · exact ⟨by simp [wqd], by simp⟩
    · have hd : d0 = .slice (L.map Go.Den.ntW) rest := hL
      subst hd
      have e : Rows.uptoBulk (DataW.slice (L.map (Go.Den.ntW (H := H))) rest) = Rows.uptoBulkAll (L.map (Go.Den.ntW (H := H))) + Rows.uptoBulkAll rest + 1 := by
        simp only [Rows.uptoBulk]
      have hn := bulk_nt (H := H) L
      have : Rows.uptoBulk (DataW.slice (L.map (Go.Den.ntW (H := H))) rest) ≤ 1048576 := by
        refine Nat.le_trans ?_ hk1
        show _ ≤ Rows.uptoBulkAll (_ :: _)
        rw [Rows.uptoBulkAll]
        exact Nat.le_add_right _ _
      omega
  refine (Go.Den.wusb wze mixed rfl (Go.Den.wiy.1 (wwcb L hb.1 hb.2 x1 x2)) rfl W #[v0, .int .i64 x1, .int .i64 x2] (.cons w0 (.cons (.flat rfl) (.cons (.flat rfl) (.nil _))))).mono fun e W' ⟨he, _, hb, ho, hp⟩ => ?_
  subst he
  exact ⟨_, rfl, Go.Den.law_post laidOut hW' rfl ⟨_, rfl, Try.underlying4⟩ (by kernel_rfl) rfl hb ho hp⟩
theorem over : Rows.outPartsUptoRow.holds Try.pinned (Rows.OpenSpec.upto Rows.outPartsSpec) :=
  OpenClaim.holds_of_cond 4 Try.f4 rfl rfl rfl rfl rfl rfl rfl ⟨rfl, rfl, rfl, rfl, rfl⟩ rfl rfl rfl rfl rfl (by kernel_rfl) Try.func4 (by kernel_rfl)
    (of_decide_eq_true (by kernel_rfl)) (by unfold Func.isWrapper; first | (rw [if_pos (by decide +kernel)]; kernel_rfl) | (rw [if_neg (by decide +kernel)]; exact ⟨rfl, rfl⟩))
    (fun os started H enc _ F => lifted os started H enc F)
theorem proved : Rows.OutPartsUptoSaid :=
  over
#print axioms proved
end Go.Proofs.Ytgpabbbibmnnlaa.outParts
