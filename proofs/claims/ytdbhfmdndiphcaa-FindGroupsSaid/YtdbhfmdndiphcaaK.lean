/-
  HOW UNKNOWN RUNS ARE RECKONED IN THIS SEAT: which temporaries live in each loop, and behind it. (Printed by live.py.)
-/
import Derived.Test.YtdbhfmdndiphcaaRF
import Derived.Test.YtdbhfmdndiphcaaE4S
import Derived.Test.YtdbhfmdndiphcaaKC
namespace Go.Proofs.Ytdbhfmdndiphcaa
open Go.Den
noncomputable section

def live27 (i : Nat) : Option (List Tmp × List Tmp × Nat) := bif Nat.beq i 4 then some ([1, 2, 5, 6, 7], [4, 5], 999999) else none
def live28 (i : Nat) : Option (List Tmp × List Tmp × Nat) := bif Nat.beq i 4 then some ([1, 3, 6, 8], [6, 7], 999999) else bif Nat.beq i 8 then some ([1, 3, 6, 8, 9, 10, 43, 44, 45], [1, 3, 6, 8, 9, 10], 999999) else none
def live30 (i : Nat) : Option (List Tmp × List Tmp × Nat) := bif Nat.beq i 3 then some ([0, 1, 3], [0, 1], 999999) else none
def live62 (i : Nat) : Option (List Tmp × List Tmp × Nat) := bif Nat.beq i 3 then some ([3, 7, 8, 9], [3], 999999) else none
def live63 (i : Nat) : Option (List Tmp × List Tmp × Nat) := bif Nat.beq i 18 then some ([4, 5, 8, 80, 81, 82], [8], 999999) else bif Nat.beq i 27 then some ([3, 5, 11, 108, 109, 110], [11], 999999) else bif Nat.beq i 34 then some ([3, 7, 128, 129, 130], [7], 999999) else none
def live78 (i : Nat) : Option (List Tmp × List Tmp × Nat) := bif Nat.beq i 4 then some ([3, 17, 18, 19], [4], 999999) else none
def live79 (i : Nat) : Option (List Tmp × List Tmp × Nat) := bif Nat.beq i 12 then some ([0, 2, 77, 78, 79], [6], 999999) else none
def live86 (i : Nat) : Option (List Tmp × List Tmp × Nat) := bif Nat.beq i 1 then some ([0, 6, 7, 8], [], 999999) else none
def live87 (i : Nat) : Option (List Tmp × List Tmp × Nat) := bif Nat.beq i 3 then some ([3, 4, 7, 11, 12, 13], [7], 999999) else none
def live88 (i : Nat) : Option (List Tmp × List Tmp × Nat) := bif Nat.beq i 5 then some ([0, 1, 5, 52, 53, 54], [0, 1, 5], 999999) else none
def liveT (f i : Nat) : Option (List Tmp × List Tmp × Nat) := bif Nat.blt f 78 then (bif Nat.blt f 30 then (bif Nat.blt f 28 then (bif Nat.beq f 27 then live27 i else none) else (bif Nat.beq f 28 then live28 i else none)) else (bif Nat.blt f 62 then (bif Nat.beq f 30 then live30 i else none) else (bif Nat.blt f 63 then (bif Nat.beq f 62 then live62 i else none) else (bif Nat.beq f 63 then live63 i else none)))) else (bif Nat.blt f 86 then (bif Nat.blt f 79 then (bif Nat.beq f 78 then live78 i else none) else (bif Nat.beq f 79 then live79 i else none)) else (bif Nat.blt f 87 then (bif Nat.beq f 86 then live86 i else none) else (bif Nat.blt f 88 then (bif Nat.beq f 87 then live87 i else none) else (bif Nat.beq f 88 then live88 i else none))))

def tabK : List (FuncId × List Value × Value) := [(29, [], .bool true)]
def cfg : Cfg := { raw := fun _ => (false, false), own := fun f => true, live := liveT, glob := fun _ => none, know := knowTab tabK noKnow }
theorem hc : Plain cfg := ⟨fun _ => rfl⟩
theorem hknow : KnowOK Try.prog cfg.glob cfg.know := knowTab_ok (fun e he => by
  simp only [tabK, List.mem_cons, List.not_mem_nil, or_false] at he
  subst he; exact known_FindRuns) noKnow_ok
theorem callS_K {rec : Rec} {f : FuncId} {args : List Value} {H : AH} : callS Try.prog cfg rec f args H = callK rec f H (sealL Try.prog H 20 args) (cfg.know f) := rfl
/-- What a frame holds besides. -/
def G0 : (Nat → Option (List Value)) × Bool := (fun _ => none, true)

theorem g0_K : G0.2 = true := rfl
theorem g_K {f : FuncId} : (cfg.glob, cfg.own f) = G0 := rfl
theorem kn_K : cfg.know 15 = none ∧ cfg.know 28 = none ∧ cfg.know 30 = none ∧ cfg.know 31 = none ∧ cfg.know 40 = none ∧ cfg.know 58 = none ∧ cfg.know 62 = none ∧ cfg.know 63 = none ∧ cfg.know 78 = none ∧ cfg.know 79 = none ∧ cfg.know 83 = none ∧ cfg.know 84 = none ∧ cfg.know 85 = none ∧ cfg.know 86 = none ∧ cfg.know 87 = none ∧ cfg.know 88 = none ∧ cfg.know 96 = none ∧ cfg.know 97 = none ∧ cfg.know 108 = none ∧ cfg.know 127 = none ∧ cfg.know 128 = none := ⟨rfl, rfl, rfl, rfl, rfl, rfl, rfl, rfl, rfl, rfl, rfl, rfl, rfl, rfl, rfl, rfl, rfl, rfl, rfl, rfl, rfl⟩
theorem kw_K : ∀ (rec : Rec) (H : AH) (fr : Frs), callK rec 29 H (some ([], fr)) (cfg.know 29) = .did (.bool true) none true (raise H fr) (frIds fr) := fun _ _ _ => by kernel_rfl
theorem tsz_K : tsz Try.prog 3 = 1 ∧ tsz Try.prog 55 = 8 ∧ tsz Try.prog 113 = 9 := ⟨by kernel_rfl, by kernel_rfl, by kernel_rfl⟩
theorem lv_find_All_0 : cfg.live 27 (firstId (lc_find_All 0)) = some ([1, 2, 5, 6, 7], [4, 5], 999999) := by kernel_rfl
theorem lv_find_First_0 : cfg.live 28 (firstId (lc_find_First 0)) = some ([1, 3, 6, 8], [6, 7], 999999) := by kernel_rfl
theorem lv_find_First_1 : cfg.live 28 (firstId (lc_find_First 1)) = some ([1, 3, 6, 8, 9, 10, 43, 44, 45], [1, 3, 6, 8, 9, 10], 999999) := by kernel_rfl
theorem lv_way_None_0 : cfg.live 30 (firstId (lc_way_None 0)) = some ([0, 1, 3], [0, 1], 999999) := by kernel_rfl
theorem lv_rx_Nodes_0 : cfg.live 62 (firstId (lc_rx_Nodes 0)) = some ([3, 7, 8, 9], [3], 999999) := by kernel_rfl
theorem lv_way_text_ways_0 : cfg.live 63 (firstId (lc_way_text_ways 0)) = some ([4, 5, 8, 80, 81, 82], [8], 999999) := by kernel_rfl
theorem lv_way_text_ways_1 : cfg.live 63 (firstId (lc_way_text_ways 1)) = some ([3, 5, 11, 108, 109, 110], [11], 999999) := by kernel_rfl
theorem lv_way_text_ways_2 : cfg.live 63 (firstId (lc_way_text_ways 2)) = some ([3, 7, 128, 129, 130], [7], 999999) := by kernel_rfl
theorem lv_rx_walker_anchors_0 : cfg.live 78 (firstId (lc_rx_walker_anchors 0)) = some ([3, 17, 18, 19], [4], 999999) := by kernel_rfl
theorem lv_rx_walker_walk_0 : cfg.live 79 (firstId (lc_rx_walker_walk 0)) = some ([0, 2, 77, 78, 79], [6], 999999) := by kernel_rfl
theorem lv_way_row_add_0 : cfg.live 86 (firstId (lc_way_row_add 0)) = some ([0, 6, 7, 8], [], 999999) := by kernel_rfl
theorem lv_way_text_from_0 : cfg.live 87 (firstId (lc_way_text_from 0)) = some ([3, 4, 7, 11, 12, 13], [7], 999999) := by kernel_rfl
theorem lv_way_repeater_on_0 : cfg.live 88 (firstId (lc_way_repeater_on 0)) = some ([0, 1, 5, 52, 53, 54], [0, 1, 5], 999999) := by kernel_rfl

end
end Go.Proofs.Ytdbhfmdndiphcaa
