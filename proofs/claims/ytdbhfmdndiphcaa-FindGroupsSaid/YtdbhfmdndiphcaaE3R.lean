/-
  ROWS OUT OF UNKNOWN RUNS: what was handed in reads as it did.
-/
import Derived.Test.YtdbhfmdndiphcaaE3V
import Derived.ChangeSame
import Derived.WideKeyArgs
import Derived.OpenShut
import Derived.WideKeyPair
namespace Go.Den
noncomputable section
open Go.ChangeShapes Go.WideShapes Go.RowKit

variable {P : Program} {cfg : Cfg} {H : Type} {enc : TypeId × Value → H}

theorem known_ev (hknow : KnowOK P cfg.glob cfg.know) (hm : P.follows .mixedOrders = true) {f : FuncId} {a : List Value} {v : Value} (h : Ev P cfg (.call f a) AH0 (.val v, AH0)) (ha : noRefsL a = true) (hv : noRefs v = true) : KnownOK P cfg.glob f a v := by
  obtain ⟨n, h⟩ := h
  exact known_of_den hknow hm (h n (Nat.le_refl n)) ha hv

/-- All cells of a world. -/
def renW (w : World) : Ren := ⟨fun _ _ => none, fun b i => w.cell? ⟨b, i, none⟩⟩

/-- A law that answers true, at arguments that are frozen ones. -/
theorem law_calls (hknow : KnowOK P cfg.glob cfg.know) (hm : P.follows .mixedOrders = true) (hg : cfg.glob = fun _ => none) {f : FuncId} {a : List Value} (h : Ev P cfg (.call f a) AH0 (.val (.bool true), AH0)) (ha : noRefsL a = true) (w : World) (args' : Array Value) (hA : VRL (renW w) a args'.toList) :
    Calls P f args' w fun e w' => e = .returned (.bool true) ∧ w.heap.size ≤ w'.heap.size ∧ (∀ b : Nat, b < w.heap.size → w'.heap[b]? = w.heap[b]?) ∧ w'.os = w.os ∧ w'.output = w.output := by
  refine (known_ev hknow hm h ha rfl (renW w) w args' (fun _ _ _ h => h) (by rw [hg]; exact gok_none _) hA).mono ?_
  rintro e w' ⟨ρ', v', rfl, h1, _, _, _, _, h5, h2, h3, h4⟩
  rw [h1.bool_inv]
  exact ⟨rfl, h5, h2, h3, h4⟩

theorem same_at {W W' : World} (hb : ∀ b : Nat, b < W.heap.size → W'.heap[b]? = W.heap[b]?) {p : MemPlace} (hp : p.block < W.heap.size) : W.sameAt W' p := by
  cases p with
  | cell b o => exact World.cell?_of_block (w := W) (hb b hp)
  | map b => exact hb b hp

theorem trodAll_stays (hl : laidOutB P = true) {W W' : World} (hb : ∀ b : Nat, b < W.heap.size → W'.heap[b]? = W.heap[b]?) {sp : Nat → Bool} : ∀ (ts : List TypeId) (vs : List Value) (ds : List (DataW H)) (ps : List MemPlace), (ts.all fun t => P.readableRec t && decide (t < P.types.size)) = true →
    DataW.TrodAll enc P W 0 (fun _ => true) true ts vs ds ps → (∀ p ∈ ps, p.block < W.heap.size) → (∀ p ∈ ps, sp p.block = true) → DataW.TrodAll enc P W' 0 sp true ts vs ds ps := by
  intro ts
  induction ts with
  | nil =>
    intro vs ds ps _ h _ _
    obtain ⟨rfl, rfl, rfl⟩ := trodAll_nil h
    exact trodAll_mk0
  | cons t ts ih =>
    intro vs ds ps ht h hlt hs
    obtain ⟨v, vs', d, ds', p, q, rfl, rfl, rfl, h0, h1⟩ := trodAll_cons h
    simp only [List.all_cons, Bool.and_eq_true, decide_eq_true_eq] at ht
    exact trodAll_cons_mk (WideElems.Trod_stays hl ht.1.1 ht.1.2 h0 (fun x hx => same_at hb (hlt x (List.mem_append_left _ hx))) (fun x hx => hs x (List.mem_append_left _ hx)))
      (ih vs' ds' q (by simpa using ht.2) h1 (fun x hx => hlt x (List.mem_append_right _ hx)) (fun x hx => hs x (List.mem_append_right _ hx)))

/-- A law's closing: it answers true; the arguments read as they did. -/
theorem law_post (hl : laidOutB P = true) {f : Func} {s : ChangeSpec} {apart fresh handsOn : Bool} {W W' : World} {args : Array Value} {ds gs : List (DataW H)} {before : List MemPlace}
    (hW : DataW.Whole enc P f.params.toList s.vars apart W args.toList ds gs before) (hvars : s.vars = []) (hbool : ∃ t, f.resultTypes = #[t] ∧ P.underlying t = some .bool)
    (hts : (f.params.toList.all fun t => P.readableRec t && decide (t < P.types.size)) = true)
    (hfn : s.fn H (ds ++ gs) = { results := [.lit (.bool true)], args := ds })
    (hs : ∀ b : Nat, b < W.heap.size → W'.heap[b]? = W.heap[b]?) (ho : W'.os = W.os) (hp : W'.output = W.output) : s.post enc P f apart fresh handsOn false W args (.bool true) W' := by
  have hW' := hW
  obtain ⟨p, q, hA, hV, rfl, hfz, hnd⟩ := hW
  rw [hvars] at hV
  obtain ⟨rfl, rfl⟩ := trodVars_none hV
  obtain ⟨t, ht, hu⟩ := hbool
  refine post_kept (pa := p) (pv := []) hW' (fun b sp hd => ?_) (fun sp hsp => ?_) (fun sp _ => ?_) rfl (kept_of hs ho hp)
  · rw [ht, hfn]
    exact trodAll_cons_mk (shut_bool hu _) trodAll_mk0
  · rw [hfn]
    exact trodAll_stays hl hs _ _ _ _ hts hA (fun x hx => hW'.lt x (List.mem_append_left _ hx)) (fun x hx => hsp x (List.mem_append_left _ hx))
  · rw [hfn, hvars]
    exact rfl

theorem word_of {n : Int} (h : (Lit.int .u64 n).wf = true) : n = (((BitVec.ofInt 64 n).toNat : Nat) : Int) := by
  simp only [Lit.wf, Bool.and_eq_true, decide_eq_true_eq] at h
  have h1 : (0 : Int) ≤ n := h.1
  have h2 : n ≤ 18446744073709551615 := h.2
  rw [BitVec.toNat_ofInt]
  omega

theorem set_of_words {a0 a1 a2 a3 : Int} (w0 : (Lit.int .u64 a0).wf = true) (w1 : (Lit.int .u64 a1).wf = true) (w2 : (Lit.int .u64 a2).wf = true) (w3 : (Lit.int .u64 a3).wf = true) :
    ∃ s : BitVec 256, Value.agg ⟨[.int .u64 a0, .int .u64 a1, .int .u64 a2, .int .u64 a3]⟩ = setV s := by
  refine ⟨ofWd fun i => match i with | 0 => BitVec.ofInt 64 a0 | 1 => BitVec.ofInt 64 a1 | 2 => BitVec.ofInt 64 a2 | _ => BitVec.ofInt 64 a3, ?_⟩
  unfold setV setC wdV
  rw [wd_ofWd _ (by omega), wd_ofWd _ (by omega), wd_ofWd _ (by omega), wd_ofWd _ (by omega)]
  simp only []
  rw [← word_of w0, ← word_of w1, ← word_of w2, ← word_of w3]

/-- A set that is handed in. -/
theorem open_set {k e : TypeId} (A : Go.WideMaps.ArrKey P k e 4) (he : P.underlying e = some (.int .u64)) {W : World} {base : Nat} {sp : Nat → Bool} {held : Bool} {r : Reach} {b0 : Nat} {v : Value} {d : DataW H} {ps : List MemPlace} (hval : Value.okWide P W r b0 k v) (hd : DataW.Trod enc P W base sp held k v d ps) :
    ∃ s : BitVec 256, v = setV s := by
  obtain ⟨⟨l⟩, rfl, hn⟩ : ∃ xs : Array Value, v = .agg xs ∧ xs.size = 4 := by
    simp only [Value.okWide, A.hu] at hval
    obtain ⟨cs, h1, h2, _⟩ := hval
    exact ⟨cs, h1, by rw [h2, A.size]⟩
  match l, hn with
  | [v0, v1, v2, v3], _ =>
    obtain ⟨fuel, hf⟩ := hd
    cases fuel with
    | zero => simp [DataW.trod] at hf
    | succ n =>
      rw [DataW.trod_step] at hf
      unfold DataW.trodStep at hf
      simp only [A.hu, Value.cells] at hf
      rw [if_pos (by rw [A.size]; rfl)] at hf
      simp only [Option.map_eq_some_iff] at hf
      obtain ⟨xs, hx, _⟩ := hf
      rw [show List.range 4 = [0, 1, 2, 3] from rfl, List.mapM_cons, List.mapM_cons, List.mapM_cons, List.mapM_cons, List.mapM_nil] at hx
      simp only [bind, Option.bind_eq_some_iff, pure, Option.some.injEq, A.one] at hx
      obtain ⟨y0, h0, _, ⟨y1, h1, _, ⟨y2, h2, _, ⟨y3, h3, _, rfl, rfl⟩, rfl⟩, rfl⟩, rfl⟩ := hx
      obtain ⟨a0, e0, _, w0⟩ := DataW.trod_int he h0
      obtain ⟨a1, e1, _, w1⟩ := DataW.trod_int he h1
      obtain ⟨a2, e2, _, w2⟩ := DataW.trod_int he h2
      obtain ⟨a3, e3, _, w3⟩ := DataW.trod_int he h3
      simp at e0 e1 e2 e3
      subst e0 e1 e2 e3
      exact set_of_words w0 w1 w2 w3


theorem byte_of {n : Int} (h : (Lit.int .u8 n).wf = true) : ∃ x : Nat, n = (x : Int) ∧ x < 256 := by
  simp only [Lit.wf, Bool.and_eq_true, decide_eq_true_eq] at h
  have h1 : (0 : Int) ≤ n := h.1
  have h2 : n ≤ 255 := h.2
  exact ⟨n.toNat, by omega, by omega⟩

end
end Go.Den
