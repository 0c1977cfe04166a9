/-
  CLOSED RUNS that are known: reckoned by the kernel.
-/
import Derived.Test.YtdbhfmdndiphcaaE2Y
import Derived.Test.YtdbhfmdndiphcaaProg
import Derived.KernelRfl
namespace Go.Proofs.Ytdbhfmdndiphcaa
open Go.Den
noncomputable section

theorem mixed : Try.prog.follows .mixedOrders = true := by kernel_rfl

def rawC (f : FuncId) : Bool × Bool := bif Nat.beq f 105 then (true, true) else (false, false)
def ownC (f : FuncId) : Bool := !([52, 53, 66, 71] : List Nat).any fun k => Nat.beq k f
def cfgC0 : Cfg := { raw := fun _ => (false, false), own := ownC, live := fun _ _ => none, glob := fun _ => none, know := noKnow }
theorem clone_nil : ∀ c, noRes (den Try.prog cfgC0 100 (.call 105 [.slice none 0 c]) AH0) = true := fun c => by kernel_rfl
theorem clone_no : noRes (den Try.prog cfgC0 100 (.call 105 [.slice (some ⟨0, 0, none⟩) 0 0]) AH0) = true := by kernel_rfl
def knowC : FuncId → Option (List Value → Option Value) := knowNo [105] noKnow
theorem knowC_ok : KnowOK Try.prog (fun _ => none) knowC :=
  knowNo_ok (fun f hf => by
      rw [List.mem_singleton] at hf
      subst hf
      exact known_no (cfg := cfgC0) noKnow_ok mixed clone_nil clone_no) noKnow_ok
def cfgC : Cfg := { raw := rawC, own := ownC, live := fun _ _ => none, glob := fun _ => none, know := knowC }

theorem findRuns_run : retTrue (den Try.prog cfgC 3000 (.call 29 []) AH0) = true := by kernel_rfl
theorem known_FindRuns : KnownOK Try.prog (fun _ => none) 29 [] (.bool true) := known_true (cfg := cfgC) knowC_ok mixed findRuns_run

end
end Go.Proofs.Ytdbhfmdndiphcaa
