/-
  HOW UNKNOWN RUNS ARE RECKONED IN THIS SEAT: nothing is known ahead.
-/
import Derived.Test.YtloljgnmmbndgaaRF
namespace Go.Proofs.Ytloljgnmmbndgaa
open Go.Den
noncomputable section

theorem mixed : Try.prog.follows .mixedOrders = true := by kernel_rfl

def cfg : Cfg := { raw := fun _ => (false, false), own := fun _ => true, live := fun _ _ => none, glob := fun _ => none, know := noKnow }
theorem hc : Plain cfg := ⟨fun _ _ => rfl, fun _ => rfl⟩
def knf (f : FuncId) : Bool := false
theorem hk (f : FuncId) (h : knf f = false) : cfg.know f = none := rfl
theorem hknow : KnowOK Try.prog cfg.glob cfg.know := noKnow_ok

end
end Go.Proofs.Ytloljgnmmbndgaa
