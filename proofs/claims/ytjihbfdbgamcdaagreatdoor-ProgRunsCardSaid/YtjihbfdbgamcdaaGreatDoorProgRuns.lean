/-
  The law ProgRuns answers true: it takes no argument. Its calls of the reader are reckoned by the kernel, each by itself, through a proved reckoner of the model; then the law itself. No condition.
-/
import Derived.Test.YtjihbfdbgamcdaaGreatDoorCards
import Derived.Test.YtjihbfdbgamcdaaGreatDoorTie
import Derived.Test.YtjihbfdbgamcdaaGreatDoorE2Y
import Derived.WalkKit
import Derived.ProofKit
import Derived.OpenShut
import Derived.Deep.DeepHandedRow
import Derived.Lib.LaidTab
namespace Go.Proofs.YtjihbfdbgamcdaaGreatDoor.progRuns
open Go.ChangeShapes Go.WideShapes Go.ChangeAt Go.RowKit Go.Den

theorem own : ownKnob Tryz.prog.godebug = none := by kernel_rfl

theorem mixed : Tryz.prog.follows .mixedOrders = true := by kernel_rfl

/- HOW IT IS RECKONED -/

noncomputable def clones : List Nat := [24, 36, 38, 46]
noncomputable def raw (f : FuncId) : Bool × Bool := bif ([24, 36, 38, 46] : List Nat).any fun k => Nat.beq k f then (true, true) else (false, false)
noncomputable def owns (f : FuncId) : Bool := !([24, 36, 38, 46, 27, 37, 28, 29, 30, 126, 127, 128, 143, 146, 147] : List Nat).any fun k => Nat.beq k f

noncomputable def cfg0 : Cfg := { raw := fun _ => (false, false), own := owns, live := fun _ _ => none, glob := fun _ => none, know := noKnow }

theorem nil0 : ∀ c, noRes (den Tryz.prog cfg0 100 (.call 24 [.slice none 0 c]) AH0) = true := fun c => by kernel_rfl
theorem no0 : noRes (den Tryz.prog cfg0 100 (.call 24 [.slice (some ⟨0, 0, none⟩) 0 0]) AH0) = true := by kernel_rfl
theorem nil1 : ∀ c, noRes (den Tryz.prog cfg0 100 (.call 36 [.slice none 0 c]) AH0) = true := fun c => by kernel_rfl
theorem no1 : noRes (den Tryz.prog cfg0 100 (.call 36 [.slice (some ⟨0, 0, none⟩) 0 0]) AH0) = true := by kernel_rfl
theorem nil2 : ∀ c, noRes (den Tryz.prog cfg0 100 (.call 38 [.slice none 0 c]) AH0) = true := fun c => by kernel_rfl
theorem no2 : noRes (den Tryz.prog cfg0 100 (.call 38 [.slice (some ⟨0, 0, none⟩) 0 0]) AH0) = true := by kernel_rfl
theorem nil3 : ∀ c, noRes (den Tryz.prog cfg0 100 (.call 46 [.slice none 0 c]) AH0) = true := fun c => by kernel_rfl
theorem no3 : noRes (den Tryz.prog cfg0 100 (.call 46 [.slice (some ⟨0, 0, none⟩) 0 0]) AH0) = true := by kernel_rfl

noncomputable def know1 : FuncId → Option (List Value → Option Value) := knowNo clones noKnow

theorem know1_ok : KnowOK Tryz.prog (fun _ => none) know1 :=
  knowNo_ok (fun f hf => by
      simp only [clones, List.mem_cons, List.not_mem_nil, or_false] at hf
      rcases hf with rfl | rfl | rfl | rfl
      · exact known_no (cfg := cfg0) noKnow_ok mixed nil0 no0
      · exact known_no (cfg := cfg0) noKnow_ok mixed nil1 no1
      · exact known_no (cfg := cfg0) noKnow_ok mixed nil2 no2
      · exact known_no (cfg := cfg0) noKnow_ok mixed nil3 no3) noKnow_ok

noncomputable def cfg1 : Cfg := { raw := raw, own := owns, live := fun _ _ => none, glob := fun _ => none, know := know1 }

/- THE CALLS -/

noncomputable def text (l : List Nat) : Value := .string ⟨(l.map UInt8.ofNat).toArray⟩
noncomputable def no : Value := .func (.yield 0) ⟨[]⟩ ⟨[]⟩
noncomputable def rx0 : List Value := [.int .i64 0, .int .i64 0, .int .i64 0, .int .i64 0, .int .u64 0, .int .u64 0, .int .u64 0, .int .u64 0, no]
/-- A command: its addresses (kind, line), is it turned round, its letter, its text. -/
noncomputable def cm (a b c d : Int) (turned : Bool) (letter : Int) (t : List Nat) : List Value :=
  [.int .i64 a, .int .i64 b] ++ rx0 ++ [.int .i64 c, .int .i64 d] ++ rx0 ++ [.bool turned, .int .u8 letter, text t] ++ rx0 ++ [no, .bool false, .bool false, .int .i64 0, text [], text []]
noncomputable def row (n : Nat) (l : List Value) : Value := .func (.yield n) ⟨l⟩ ⟨[]⟩

noncomputable def l1 : Value := row 5 (cm 1 1 0 0 false 123 [] ++ cm 0 0 0 0 false 98 [120] ++ cm 0 0 0 0 false 125 [] ++ cm 0 0 0 0 false 112 [] ++ cm 0 0 0 0 false 58 [120])
noncomputable def a1 : List Value := [text [49, 123, 98, 32, 120, 125, 59, 112, 59, 58, 120], .bool false]
noncomputable def v1 : Value := .tuple ⟨[l1, .int .i64 0, .int .i64 0]⟩
noncomputable def b1 : List Value := [l1, .bool false]
theorem run1 : isVal v1 (den Tryz.prog cfg1 3000 (.call 21 a1) AH0) = true := by kernel_rfl
theorem right1 : isVal (.bool true) (den Tryz.prog cfg1 3000 (.call 26 b1) AH0) = true := by kernel_rfl
noncomputable def l2 : Value := row 1 (cm 0 0 0 0 false 98 [121])
noncomputable def a2 : List Value := [text [98, 32, 121], .bool false]
noncomputable def v2 : Value := .tuple ⟨[l2, .int .i64 0, .int .i64 0]⟩
noncomputable def b2 : List Value := [l2, .bool false]
theorem run2 : isVal v2 (den Tryz.prog cfg1 3000 (.call 21 a2) AH0) = true := by kernel_rfl
theorem right2 : isVal (.bool true) (den Tryz.prog cfg1 3000 (.call 26 b2) AH0) = true := by kernel_rfl

noncomputable def table : List (FuncId × List Value × Value) := [(21, a1, v1), (21, a2, v2), (26, b1, .bool true), (26, b2, .bool true)]

theorem table_ok : ∀ e ∈ table, KnownOK Tryz.prog (fun _ => none) e.1 e.2.1 e.2.2 := by
  intro e he
  simp only [table, List.mem_cons, List.not_mem_nil, or_false] at he
  rcases he with rfl | rfl | rfl | rfl
  · exact known_of_run (cfg := cfg1) know1_ok mixed run1 (by kernel_rfl) (by kernel_rfl)
  · exact known_of_run (cfg := cfg1) know1_ok mixed run2 (by kernel_rfl) (by kernel_rfl)
  · exact known_of_run (cfg := cfg1) know1_ok mixed right1 (by kernel_rfl) (by kernel_rfl)
  · exact known_of_run (cfg := cfg1) know1_ok mixed right2 (by kernel_rfl) (by kernel_rfl)

noncomputable def cfg2 : Cfg := { raw := raw, own := owns, live := fun _ _ => none, glob := fun _ => none, know := knowTab table know1 }

theorem run : retTrue (den Tryz.prog cfg2 3000 (.call 3 []) AH0) = true := by kernel_rfl

theorem walk (w : World) : Calls Tryz.prog 3 #[] w fun e w' => e = .returned (.bool true) ∧ w.keptBut w' (fun _ => False) :=
  true_calls (cfg := cfg2) (knowTab_ok table_ok know1_ok) mixed rfl run w

/- THE ROW -/

theorem contract (H : Type) (enc : TypeId × Value → H) (W : World) (args : Array Value) (ds gs : List (DataW H)) (before : List MemPlace)
    (hW : DataW.Whole enc Tryz.prog Tryz.f3.params.toList Rows.progRunsSpec.vars false W args.toList ds gs before) :
    Calls Tryz.prog 3 args W fun e W' => ∃ v, e = .returned v ∧ Rows.progRunsSpec.post enc Tryz.prog Tryz.f3 false true false false W args v W' := by
  have hW' := hW
  obtain ⟨p, q, hA0, hV, rfl, hfz, hnd⟩ := hW
  have hA : DataW.TrodAll enc Tryz.prog W 0 (fun _ => true) true Tryz.f3.params.toList args.toList ds p := hA0
  rw [Tryz.params3] at hA
  obtain ⟨hargs, rfl, rfl⟩ := trodAll_nil hA
  obtain rfl : args = #[] := by cases args; simp_all
  obtain ⟨rfl, rfl⟩ := trodVars_none hV
  refine (walk W).mono fun e W' ⟨he, hg⟩ => ?_
  subst he
  exact ⟨_, rfl, Go.Den.post_kept (pa := []) (pv := []) hW' (fun _ _ _ => (trodAll_cons_mk (shut_bool Tryz.underlying4 _) trodAll_mk0)) (fun sp _ => trodAll_mk0) (fun _ _ => rfl) rfl hg⟩

/-- A table's cells. -/
noncomputable def cell0 {H : Type} : DataW H → Value
  | .lit (.int k n) => .int k n
  | _ => .nilIface
noncomputable def cell1 {H : Type} : DataW H → List Value
  | .lit (.int k n) => [.int k n]
  | .agg l => l.map cell0
  | _ => [.nilIface]
noncomputable def cellsOf {H : Type} : DataW H → Array Value
  | .agg l => (l.flatMap cell1).toArray
  | _ => #[]
noncomputable def put (c : Array Value) : Obj → Obj
  | .cells _ t frozen => .cells c t frozen
  | o => o

/-- A world for the witness: the settled one, the tables holding what their initialisers lay. -/
noncomputable def laidWorld (os : Os) : World :=
  { World.holding Tryz.prog os ⟨#[], #[], []⟩ with heap := ((((((World.holding Tryz.prog os ⟨#[], #[], []⟩).heap.modify 1 (put (cellsOf (H := Unit) Rows.laid_unicode_utf8_first))).modify 2 (put (cellsOf (H := Unit) Rows.laid_unicode_utf8_acceptRanges))).modify 3 (put (cellsOf (H := Unit) Rows.laid_internal_strconv_uint64pow10))).modify 4 (put (cellsOf (H := Unit) Rows.laid_math_bits_deBruijn32tab))).modify 5 (put (cellsOf (H := Unit) Rows.laid_math_bits_deBruijn64tab))) }

theorem laid_met (os : Os) : laidMet Tryz.prog Rows.progRunsRow.laid ((laidWorld os).forCall (fun _ _ => 0) ⟨#[], #[], []⟩).memory :=
  laidMet_of_run' 100 (by kernel_rfl) (by kernel_rfl)
theorem reads (os : Os) {H : Type} (enc : TypeId × Value → H) : ∃ places, DataW.whole enc Tryz.prog ((laidWorld os).forCall (fun _ _ => 0) ⟨#[], #[], []⟩).memory Tryz.f3.params.toList Rows.progRunsSpec.vars false (#[] : Array Value).toList 8 = some ([], [], places) :=
  ⟨[], by kernel_rfl⟩

set_option maxRecDepth 100000 in
theorem lifted (os : Os) (started : os.Started) (H : Type) (enc : TypeId × Value → H) (F : Stop.Interp) :
    ReturnsInHanded {} Tryz.checked os 3 .any ((OpenSpec.ofChange Rows.progRunsSpec).preRow enc Tryz.prog Tryz.f3 Rows.progRunsRow.domain false Rows.progRunsRow.laid) (((OpenSpec.ofChange Rows.progRunsSpec).at F).post enc Tryz.prog Tryz.f3 false true false false) := by
  obtain ⟨places, hx⟩ := reads os enc
  refine returnsInHanded_of_row (C := Tryz.checked) (s := OpenSpec.ofChange Rows.progRunsSpec) own started (by kernel_rfl) Tryz.func3
    (witness_row_at (enc := enc) (C := Tryz.checked) false (laidWorld os) #[] rfl (by kernel_rfl) (by kernel_rfl) (by kernel_rfl)
      (OpenSpec.preRow_of_cond 8 hx (by kernel_rfl) (fun k hk => by cases hk) (by kernel_rfl) (laid_met os))) ?_
  intro W base args ds gs before hval hW _ _ _ hL _ _
  exact contract H enc W args ds gs before hW

theorem said : Rows.ProgRunsSaid :=
  OpenClaim.holds_of_cond 3 Tryz.f3 rfl rfl rfl rfl rfl rfl rfl ⟨rfl, rfl, rfl, rfl, rfl⟩ rfl rfl rfl rfl rfl (by kernel_rfl) Tryz.func3 (by kernel_rfl)
    (of_decide_eq_true (by kernel_rfl)) (by unfold Func.isWrapper; first | (rw [if_pos (by decide +kernel)]; kernel_rfl) | (rw [if_neg (by decide +kernel)]; exact ⟨rfl, rfl⟩))
    (fun os started H enc _ F => by rw [OpenClaim.pre_eq_preRow]; exact lifted os started H enc F)

/-- No parameter wants a stand-in; the program's own looks are off: what the card asks. -/
theorem plain (f : FuncId) (fn : Func) (hf : Tryz.pinned.checked.prog.funcNamed "gloss/glosslaw10.ProgRuns" = some f) (hfn : Tryz.pinned.checked.prog.funcs[f]? = some fn) :
    false = Tryz.pinned.checked.prog.looks [] ∧ ∀ (j : Nat) t, fn.params[j]? = some t → Tryz.pinned.checked.prog.wantsStandIn t = false := by
  obtain rfl : f = 3 := Option.some.inj ((show Tryz.prog.funcNamed "gloss/glosslaw10.ProgRuns" = some 3 by kernel_rfl).symm.trans hf) |>.symm
  obtain rfl : fn = Tryz.f3 := (Option.some.inj (Tryz.func3.symm.trans hfn)).symm
  refine ⟨by kernel_rfl, fun j t ht => ?_⟩
  rw [Tryz.params3] at ht
  simp at ht

theorem card : Rows.ProgRunsCardSaid :=
  Claim7.holds_tied_plain_at .later [] _ _ _ _ said (fun _ h => by cases h) (by kernel_rfl) (fun _ h => by cases h) progRuns_row_tie rfl ⟨rfl, rfl⟩ (by kernel_rfl) rfl plain (by kernel_rfl)

#print axioms card
end Go.Proofs.YtjihbfdbgamcdaaGreatDoor.progRuns
