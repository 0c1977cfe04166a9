/-
  The law RxRuns answers true: it takes no argument. Its calls of the parser and the printer are reckoned by the kernel, each by itself, through a proved reckoner of the model; then the law itself. strings.Join by the shelf's contract.
-/
import Derived.Test.YtbpcageamcgehaaDoorCards
import Derived.Test.YtbpcageamcgehaaDoorTie
import Derived.Test.YtbpcageamcgehaaDoorE2K1
import Derived.Test.YtbpcageamcgehaaDoorJoin
import Derived.WalkKit
import Derived.ProofKit
import Derived.OpenShut
import Derived.Deep.DeepHandedRow
import Derived.Lib.LaidTab
namespace Go.Proofs.YtbpcageamcgehaaDoor.rxRuns
open Go.ChangeShapes Go.WideShapes Go.ChangeAt Go.RowKit Go.Den

theorem own : ownKnob Tryd.prog.godebug = none := by kernel_rfl

theorem mixed : Tryd.prog.follows .mixedOrders = true := by kernel_rfl

/- HOW IT IS RECKONED -/

noncomputable def raw (f : FuncId) : Bool × Bool := bif Nat.beq f 24 then (true, true) else (false, false)
noncomputable def owns (f : FuncId) : Bool := !([35, 36, 37, 51, 54, 55] : List Nat).any fun k => Nat.beq k f

noncomputable def cfg0 : Cfg := { raw := fun _ => (false, false), own := owns, live := fun _ _ => none, glob := fun _ => none, know := noKnow }

theorem clone_nil : ∀ c, noRes (den Tryd.prog cfg0 100 (.call 24 [.slice none 0 c]) AH0) = true := fun c => by kernel_rfl
theorem clone_no : noRes (den Tryd.prog cfg0 100 (.call 24 [.slice (some ⟨0, 0, none⟩) 0 0]) AH0) = true := by kernel_rfl

noncomputable def know1 : FuncId → Option (List Value → Option Value) := knowFn 18 joinK (knowNo [24] noKnow)

theorem know1_ok : KnowOK Tryd.prog (fun _ => none) know1 :=
  knowFn_ok (known_join Tryd.strings_Join_none Tryd.strings_Join)
    (knowNo_ok (fun f hf => by
      rw [List.mem_singleton] at hf
      subst hf
      exact known_no (cfg := cfg0) noKnow_ok mixed clone_nil clone_no) noKnow_ok)

noncomputable def cfg1 : Cfg := { raw := raw, own := owns, live := fun _ _ => none, glob := fun _ => none, know := know1 }

/- THE CALLS -/

noncomputable def text (l : List Nat) : Value := .string ⟨(l.map UInt8.ofNat).toArray⟩
noncomputable def set (a b c d : Nat) (k : Value) : List Value := [.int .i64 1, .int .i64 0, .int .i64 0, .int .i64 0, .int .u64 a, .int .u64 b, .int .u64 c, .int .u64 d, k]
noncomputable def node (kind lo hi n : Int) (k : Value) : List Value := [.int .i64 kind, .int .i64 lo, .int .i64 hi, .int .i64 n, .int .u64 0, .int .u64 0, .int .u64 0, .int .u64 0, k]
noncomputable def kids (n : Nat) (l : List Value) : Value := .func (.yield n) ⟨l⟩ ⟨[]⟩

noncomputable def a1 : List Value := [text [97, 92, 40, 98, 42, 92, 41, 92, 49, 36], .bool false]
noncomputable def v1 : Value := .tuple ⟨[.agg ⟨node 2 0 0 0 (kids 4 (set 0 8589934592 0 0 (kids 0 []) ++ node 5 0 0 1 (kids 1 (node 4 0 (-1) 0 (kids 1 (set 0 17179869184 0 0 (kids 0 []))))) ++ node 6 0 0 1 (kids 0 []) ++ node 8 0 0 0 (kids 0 [])))⟩, .int .i64 0, .int .i64 0]⟩
noncomputable def a2 : List Value := [text [40, 97, 124, 98, 41, 43], .bool true]
noncomputable def r2 : Value := .agg ⟨node 4 1 (-1) 0 (kids 1 (node 5 0 0 1 (kids 1 (node 3 0 0 0 (kids 2 (set 0 8589934592 0 0 (kids 0 []) ++ set 0 17179869184 0 0 (kids 0 [])))))))⟩
noncomputable def v2 : Value := .tuple ⟨[r2, .int .i64 0, .int .i64 0]⟩
noncomputable def a3 : List Value := [text [91, 94, 97, 93], .bool true]
noncomputable def v3 : Value := .tuple ⟨[.agg ⟨set 18446744073709551615 18446744065119617023 18446744073709551615 18446744073709551615 (kids 0 [])⟩, .int .i64 0, .int .i64 0]⟩
noncomputable def a4 : List Value := [text [97, 124, 98], .bool false]
noncomputable def v4 : Value := .tuple ⟨[.agg ⟨node 2 0 0 0 (kids 3 (set 0 8589934592 0 0 (kids 0 []) ++ set 0 1152921504606846976 0 0 (kids 0 []) ++ set 0 17179869184 0 0 (kids 0 [])))⟩, .int .i64 0, .int .i64 0]⟩
noncomputable def a5 : List Value := [text [42, 97], .bool true]
noncomputable def v5 : Value := .tuple ⟨[.agg ⟨node 0 0 0 0 (kids 0 [])⟩, .int .i64 0, .int .i64 1]⟩
noncomputable def a6 : List Value := [r2, .bool true]
noncomputable def v6 : Value := text [40, 97, 124, 98, 41, 43]

theorem run1 : isVal v1 (den Tryd.prog cfg1 3000 (.call 4 a1) AH0) = true := by kernel_rfl
theorem run2 : isVal v2 (den Tryd.prog cfg1 3000 (.call 4 a2) AH0) = true := by kernel_rfl
theorem run3 : isVal v3 (den Tryd.prog cfg1 3000 (.call 4 a3) AH0) = true := by kernel_rfl
theorem run4 : isVal v4 (den Tryd.prog cfg1 3000 (.call 4 a4) AH0) = true := by kernel_rfl
theorem run5 : isVal v5 (den Tryd.prog cfg1 3000 (.call 4 a5) AH0) = true := by kernel_rfl
theorem run6 : isVal v6 (den Tryd.prog cfg1 3000 (.call 5 a6) AH0) = true := by kernel_rfl

noncomputable def table : List (FuncId × List Value × Value) := [(4, a1, v1), (4, a2, v2), (4, a3, v3), (4, a4, v4), (4, a5, v5), (5, a6, v6)]

theorem table_ok : ∀ e ∈ table, KnownOK Tryd.prog (fun _ => none) e.1 e.2.1 e.2.2 := by
  intro e he
  simp only [table, List.mem_cons, List.not_mem_nil, or_false] at he
  rcases he with rfl | rfl | rfl | rfl | rfl | rfl
  · exact known_of_run (cfg := cfg1) know1_ok mixed run1 (by kernel_rfl) (by kernel_rfl)
  · exact known_of_run (cfg := cfg1) know1_ok mixed run2 (by kernel_rfl) (by kernel_rfl)
  · exact known_of_run (cfg := cfg1) know1_ok mixed run3 (by kernel_rfl) (by kernel_rfl)
  · exact known_of_run (cfg := cfg1) know1_ok mixed run4 (by kernel_rfl) (by kernel_rfl)
  · exact known_of_run (cfg := cfg1) know1_ok mixed run5 (by kernel_rfl) (by kernel_rfl)
  · exact known_of_run (cfg := cfg1) know1_ok mixed run6 (by kernel_rfl) (by kernel_rfl)

noncomputable def cfg2 : Cfg := { raw := raw, own := owns, live := fun _ _ => none, glob := fun _ => none, know := knowTab table know1 }

theorem run : retTrue (den Tryd.prog cfg2 3000 (.call 3 []) AH0) = true := by kernel_rfl

theorem walk (w : World) : Calls Tryd.prog 3 #[] w fun e w' => e = .returned (.bool true) ∧ w.keptBut w' (fun _ => False) :=
  true_calls (cfg := cfg2) (knowTab_ok table_ok know1_ok) mixed rfl run w

/- THE ROW -/

theorem contract (H : Type) (enc : TypeId × Value → H) (W : World) (args : Array Value) (ds gs : List (DataW H)) (before : List MemPlace)
    (hW : DataW.Whole enc Tryd.prog Tryd.f3.params.toList Rows.rxRunsSpec.vars false W args.toList ds gs before) :
    Calls Tryd.prog 3 args W fun e W' => ∃ v, e = .returned v ∧ Rows.rxRunsSpec.post enc Tryd.prog Tryd.f3 false true false false W args v W' := by
  have hW' := hW
  obtain ⟨p, q, hA0, hV, rfl, hfz, hnd⟩ := hW
  have hA : DataW.TrodAll enc Tryd.prog W 0 (fun _ => true) true Tryd.f3.params.toList args.toList ds p := hA0
  rw [Tryd.params3] at hA
  obtain ⟨hargs, rfl, rfl⟩ := trodAll_nil hA
  obtain rfl : args = #[] := by cases args; simp_all
  obtain ⟨rfl, rfl⟩ := trodVars_none hV
  refine (walk W).mono fun e W' ⟨he, hg⟩ => ?_
  subst he
  exact ⟨_, rfl, Go.Den.post_kept (pa := []) (pv := []) hW' (fun _ _ _ => (trodAll_cons_mk (shut_bool Tryd.underlying4 _) trodAll_mk0)) (fun sp _ => trodAll_mk0) (fun _ _ => rfl) rfl hg⟩

/-- A table's cells. -/
noncomputable def cellOf {H : Type} : DataW H → Value
  | .lit (.int k n) => .int k n
  | _ => .nilIface
noncomputable def cellsOf {H : Type} : DataW H → Array Value
  | .agg l => (l.map cellOf).toArray
  | _ => #[]
noncomputable def put (c : Array Value) : Obj → Obj
  | .cells _ t frozen => .cells c t frozen
  | o => o

/-- A world for the witness: the settled one, the tables holding what their initialisers lay. -/
noncomputable def laidWorld (os : Os) : World :=
  { World.holding Tryd.prog os ⟨#[], #[], []⟩ with heap := (((World.holding Tryd.prog os ⟨#[], #[], []⟩).heap.modify 1 (put (cellsOf (H := Unit) Rows.laid_internal_strconv_uint64pow10))).modify 2 (put (cellsOf (H := Unit) Rows.laid_math_bits_deBruijn32tab))).modify 3 (put (cellsOf (H := Unit) Rows.laid_math_bits_deBruijn64tab)) }

theorem laid_met (os : Os) : laidMet Tryd.prog Rows.rxRunsRow.laid ((laidWorld os).forCall (fun _ _ => 0) ⟨#[], #[], []⟩).memory :=
  laidMet_of_run' 100 (by kernel_rfl) (by kernel_rfl)
theorem reads (os : Os) {H : Type} (enc : TypeId × Value → H) : ∃ places, DataW.whole enc Tryd.prog ((laidWorld os).forCall (fun _ _ => 0) ⟨#[], #[], []⟩).memory Tryd.f3.params.toList Rows.rxRunsSpec.vars false (#[] : Array Value).toList 8 = some ([], [], places) :=
  ⟨[], by kernel_rfl⟩

set_option maxRecDepth 100000 in
theorem lifted (os : Os) (started : os.Started) (H : Type) (enc : TypeId × Value → H) (F : Stop.Interp) :
    ReturnsInHanded {} Tryd.checked os 3 .any ((OpenSpec.ofChange Rows.rxRunsSpec).preRow enc Tryd.prog Tryd.f3 Rows.rxRunsRow.domain false Rows.rxRunsRow.laid) (((OpenSpec.ofChange Rows.rxRunsSpec).at F).post enc Tryd.prog Tryd.f3 false true false false) := by
  obtain ⟨places, hx⟩ := reads os enc
  refine returnsInHanded_of_row (C := Tryd.checked) (s := OpenSpec.ofChange Rows.rxRunsSpec) own started (by kernel_rfl) Tryd.func3
    (witness_row_at (enc := enc) (C := Tryd.checked) false (laidWorld os) #[] rfl (by kernel_rfl) (by kernel_rfl) (by kernel_rfl)
      (OpenSpec.preRow_of_cond 8 hx (by kernel_rfl) (fun k hk => by cases hk) (by kernel_rfl) (laid_met os))) ?_
  intro W base args ds gs before hval hW _ _ _ hL _ _
  exact contract H enc W args ds gs before hW

theorem said : Rows.RxRunsSaid :=
  OpenClaim.holds_of_cond 3 Tryd.f3 rfl rfl rfl rfl rfl rfl rfl ⟨rfl, rfl, rfl, rfl, rfl⟩ rfl rfl rfl rfl rfl (by kernel_rfl) Tryd.func3 (by kernel_rfl)
    (of_decide_eq_true (by kernel_rfl)) (by unfold Func.isWrapper; first | (rw [if_pos (by decide +kernel)]; kernel_rfl) | (rw [if_neg (by decide +kernel)]; exact ⟨rfl, rfl⟩))
    (fun os started H enc _ F => by rw [OpenClaim.pre_eq_preRow]; exact lifted os started H enc F)

/-- No parameter wants a stand-in; the program's own looks are off: what the card asks. -/
theorem plain (f : FuncId) (fn : Func) (hf : Tryd.pinned.checked.prog.funcNamed "gloss/glosslaw4.RxRuns" = some f) (hfn : Tryd.pinned.checked.prog.funcs[f]? = some fn) :
    false = Tryd.pinned.checked.prog.looks [] ∧ ∀ (j : Nat) t, fn.params[j]? = some t → Tryd.pinned.checked.prog.wantsStandIn t = false := by
  obtain rfl : f = 3 := Option.some.inj ((show Tryd.prog.funcNamed "gloss/glosslaw4.RxRuns" = some 3 by kernel_rfl).symm.trans hf) |>.symm
  obtain rfl : fn = Tryd.f3 := (Option.some.inj (Tryd.func3.symm.trans hfn)).symm
  refine ⟨by kernel_rfl, fun j t ht => ?_⟩
  rw [Tryd.params3] at ht
  simp at ht

theorem card : Rows.RxRunsCardSaid :=
  Claim7.holds_tied_plain_at .later [] _ _ _ _ said (fun _ h => by cases h) (by kernel_rfl) (fun _ h => by cases h) rxRuns_row_tie rfl ⟨rfl, rfl⟩ (by kernel_rfl) rfl plain (by kernel_rfl)

end Go.Proofs.YtbpcageamcgehaaDoor.rxRuns
