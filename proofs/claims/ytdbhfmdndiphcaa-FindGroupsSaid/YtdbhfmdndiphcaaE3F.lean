/-
  THE ENGINE FOR UNKNOWN VALUES, part F: frozen values, calls of what is known, what a function hands back; rows in the heap.
-/
import Derived.Test.YtdbhfmdndiphcaaE3E
namespace Go.Den
noncomputable section

variable {P : Program} {cfg : Cfg}

/- FROZEN VALUES -/

/-- No live address in it: it is what it is in each heap. -/
structure Fzn (v : Value) : Prop where
  refs : refs v = []
  toks : toks v = []
  no : noRefs v = true
  ren : ∀ m, renV m v = v

/-- A value that is frozen without asking the heap. -/
structure Sl (k : Nat) (v v' : Value) : Prop where
  sl : ∀ (P : Program) (H : AH) (d : Nat), k ≤ d → sealV1 P H (sealL P H d) v = some (v', [])
  fz : Fzn v'

inductive SlL (k : Nat) : List Value → List Value → Prop
  | nil : SlL k [] []
  | cons {v v' : Value} {l l' : List Value} (h : Sl k v v') (t : SlL k l l') : SlL k (v :: l) (v' :: l')

theorem Sl.mono {k m : Nat} {v v' : Value} (h : Sl k v v') (hk : k ≤ m) : Sl m v v' := ⟨fun P H d hd => h.sl P H d (by omega), h.fz⟩
theorem SlL.mono {k m : Nat} {v v' : List Value} (h : SlL k v v') (hk : k ≤ m) : SlL m v v' := by
  induction h with
  | nil => exact .nil
  | cons h _ ih => exact .cons (h.mono hk) ih

theorem sealL_nil (P : Program) (H : AH) (d : Nat) : sealL P H (d + 1) [] = some ([], []) := rfl
theorem sealL_cons (P : Program) (H : AH) (d : Nat) (v : Value) (l : List Value) : sealL P H (d + 1) (v :: l) = sealC (one2 (sealV1 P H (sealL P H d) v)) (sealL P H (d + 1) l) := rfl

theorem SlL.sl {k : Nat} {v v' : List Value} (h : SlL k v v') (P : Program) (H : AH) (d : Nat) (hd : k ≤ d) : sealL P H (d + 1) v = some (v', []) := by
  induction h with
  | nil => rfl
  | cons h _ ih => rw [sealL_cons, h.sl P H d hd, ih]; rfl

theorem SlL.fz {k : Nat} {v v' : List Value} (h : SlL k v v') : refsL v' = [] ∧ toksL v' = [] ∧ noRefsL v' = true ∧ ∀ m, renVL m v' = v' := by
  induction h with
  | nil => exact ⟨rfl, rfl, rfl, fun _ => rfl⟩
  | cons h _ ih => exact ⟨by simp [refsL, h.fz.refs, ih.1], by simp [toksL, h.fz.toks, ih.2.1], by simp [noRefsL, h.fz.no, ih.2.2.1], fun m => by simp [renVL, h.fz.ren m, ih.2.2.2 m]⟩

theorem Sl.int (k : IntKind) (n : Int) : Sl 0 (.int k n) (.int k n) := ⟨fun _ _ _ _ => rfl, ⟨rfl, rfl, rfl, fun _ => rfl⟩⟩
theorem Sl.bool (b : Bool) : Sl 0 (.bool b) (.bool b) := ⟨fun _ _ _ _ => rfl, ⟨rfl, rfl, rfl, fun _ => rfl⟩⟩
theorem Sl.string (s : ByteArray) : Sl 0 (.string s) (.string s) := ⟨fun _ _ _ _ => rfl, ⟨rfl, rfl, rfl, fun _ => rfl⟩⟩
theorem Sl.complex (k : FloatKind) (a b : Nat) : Sl 0 (.complex k a b) (.complex k a b) := ⟨fun _ _ _ _ => rfl, ⟨rfl, rfl, rfl, fun _ => rfl⟩⟩
theorem Sl.fl (n : Nat) (cs : List Value) : Sl 0 (FL n cs) (FL n cs) := ⟨fun _ _ _ _ => rfl, ⟨rfl, rfl, rfl, fun _ => rfl⟩⟩
theorem Sl.fo (t n : Nat) (cs : List Value) : Sl 0 (FO t n cs) (FL n cs) := ⟨fun _ _ _ _ => rfl, ⟨rfl, rfl, rfl, fun _ => rfl⟩⟩
theorem Sl.nilS : Sl 0 (.slice none 0 0) (FL 0 []) := ⟨fun _ _ _ _ => rfl, ⟨rfl, rfl, rfl, fun _ => rfl⟩⟩
theorem Sl.noS (a : Addr) (c : Nat) : Sl 0 (.slice (some a) 0 c) (FL 0 []) := ⟨fun _ _ _ _ => rfl, ⟨rfl, rfl, rfl, fun _ => rfl⟩⟩
theorem Sl.nilP : Sl 0 (.pointer none) (.pointer none) := ⟨fun _ _ _ _ => rfl, ⟨rfl, rfl, rfl, fun _ => rfl⟩⟩
theorem Sl.fp (n : Nat) (cs : List Value) : Sl 0 (FP n cs) (FP n cs) := ⟨fun _ _ _ _ => rfl, ⟨rfl, rfl, rfl, fun _ => rfl⟩⟩

theorem Sl.agg {k : Nat} {cs cs' : List Value} (h : SlL k cs cs') : Sl (k + 1) (.agg ⟨cs⟩) (.agg ⟨cs'⟩) := by
  refine ⟨fun P H d hd => ?_, ?_⟩
  · obtain ⟨d', rfl⟩ : ∃ d', d = d' + 1 := ⟨d - 1, by omega⟩
    show (match sealL P H (d' + 1) cs with | some (l, f) => some (Value.agg ⟨l⟩, f) | none => none) = _
    rw [h.sl P H d' (by omega)]
  · obtain ⟨h1, h2, h3, h4⟩ := h.fz
    exact ⟨h1, h2, h3, fun m => by show Value.agg ⟨renVL m cs'⟩ = _; rw [h4]⟩

theorem Sl.tuple {k : Nat} {cs cs' : List Value} (h : SlL k cs cs') : Sl (k + 1) (.tuple ⟨cs⟩) (.tuple ⟨cs'⟩) := by
  refine ⟨fun P H d hd => ?_, ?_⟩
  · obtain ⟨d', rfl⟩ : ∃ d', d = d' + 1 := ⟨d - 1, by omega⟩
    show (match sealL P H (d' + 1) cs with | some (l, f) => some (Value.tuple ⟨l⟩, f) | none => none) = _
    rw [h.sl P H d' (by omega)]
  · obtain ⟨h1, h2, h3, h4⟩ := h.fz
    exact ⟨h1, h2, h3, fun m => by show Value.tuple ⟨renVL m cs'⟩ = _; rw [h4]⟩

/- WHAT A FUNCTION HANDS BACK, WHERE NOTHING LIVES ON -/

theorem norm_none (H : AH) (vs : List Value) (hr : refsL vs = []) : ∃ m, normA H 0 vs = some ⟨[], m, AH0⟩ := by
  unfold normA
  rw [hr]
  refine ⟨nmOf [] [], ?_⟩
  show normK H 0 vs (some []) = _
  unfold normK
  have h1 : refsOk [] (refsL vs ++ blocksRefs H []) = true := by rw [hr]; rfl
  have h2 : ∀ ts : List Nat, toksOk (cmpsOf H (refsL vs ++ blocksRefs H []) 0 [] 0) ts = true := by
    intro ts
    simp [toksOk, cmpsOf, cmpAt]
  simp only [h1, h2]
  rfl

theorem retR_none {H : AH} {e : Env} {rs : List CRes} {x : AExit} {l : List Value} {v' : Value} {fr : Frs} (hx : isEnd x = true) (hres : resR H e rs = some l) (hs : sealL P H 20 [oneOrTuple l] = some ([v'], fr)) (hf : Fzn v') :
    retR P false 0 rs x e H = some (.val v', AH0) := by
  unfold retR
  rw [hx, cond_true, hres]
  show valK2 0 H (sealL P H 20 [oneOrTuple l]) = _
  rw [hs]
  obtain ⟨m, hm⟩ := norm_none (raise H fr) [v'] (by simp [refsL, hf.refs])
  show outK (normA (raise H fr) 0 [v']) v' = _
  rw [hm]
  show some (Out.val (renV m v'), AH0) = _
  rw [hf.ren]

theorem retR_pure {H : AH} {e : Env} {rs : List CRes} {x : AExit} {l : List Value} {v' : Value} (hx : isEnd x = true) (hres : resR H e rs = some l) (hs : Sl 18 (oneOrTuple l) v') :
    retR P false 0 rs x e H = some (.val v', AH0) :=
  retR_none (fr := []) hx hres ((SlL.cons hs .nil).sl P H 19 (by omega)) hs.fz

/- CALLS -/

theorem changed_nil (H1 H3 : AH) : changed H1 H3 [] = [] := rfl

theorem callS_none {rec : Rec} {f : FuncId} {H : AH} {args a : List Value} {fr : Frs} {v : Value} (hraw : (cfg.raw f).1 = false) (hk : cfg.know f = none) (hs : sealL P H 20 args = some (a, fr)) (hr : refsL a = []) (hra : ∀ m, renVL m a = a)
    (hrec : rec (.call f a) AH0 = some (.val v, AH0)) (hf : Fzn v) (hkey : H.n ≤ 1099511627774) (hn : (raise H fr).n = H.n) :
    callS P cfg rec f args H = .did v none true (bif flat v then H else raise H fr) (bif flat v then [] else frIds fr) := by
  unfold callS
  rw [hraw, cond_false, hs, hk]
  show callS2 rec f H (raise H fr) fr a (normA (raise H fr) 0 a) = _
  obtain ⟨m, hm⟩ := norm_none (raise H fr) a hr
  rw [hm]
  show callS3 H (raise H fr) fr [] (cmpsOf (raise H fr) _ 0 [] 0) (rec (.call f (renVL m a)) AH0) = _
  rw [hra m, hrec]
  show (bif isNil [] && flat v then Did.did v none true H [] else mergeA (raise H fr) fr [] _ v AH0) = _
  cases hq : flat v with
  | true => rfl
  | false =>
    show mergeA (raise H fr) fr [] [] v AH0 = _
    unfold mergeA
    have h1 : okKey ((raise H fr).n + AH0.n) = true := by
      rw [hn]
      exact Nat.ble_eq_true_of_le (by show H.n + 0 ≤ _; omega)
    have h2 : topsOk ([] : List Nat).length (topsOf (raise H fr) []) (toks v ++ newToks AH0 AH0.n 0) = true := by
      rw [hf.toks]; rfl
    rw [h1, h2]
    show Did.did (renV _ v) none true (raise H fr) (changed (raise H fr) (raise H fr) [] ++ frIds fr) = _
    rw [hf.ren, changed_nil]
    rfl

/-- A call whose arguments are frozen as they stand. -/
theorem callS_pure {rec : Rec} {f : FuncId} {H : AH} {args a : List Value} {v : Value} (hc : Plain cfg) (hk : cfg.know f = none) (hs : SlL 18 args a)
    (hrec : rec (.call f a) AH0 = some (.val v, AH0)) (hf : Fzn v) (hkey : H.n ≤ 1099511627774) : callS P cfg rec f args H = .did v none true H [] := by
  obtain ⟨h1, h2, h3, h4⟩ := hs.fz
  rw [callS_none (fr := []) (by rw [hc.raw]) hk (hs.sl P H 19 (by omega)) h1 h4 hrec hf hkey rfl]
  cases flat v <;> rfl

/- ROWS -/

/-- A row of cells of known length. -/
abbrev X (cs : List Value) (elem : TypeId) (frz : Nat) (pf : Bool) : ABlk := .cells { cells := cs, elem := elem, esz := 1, lens := [], wver := 0, frz := frz, mark := false, pf := pf }

theorem exact_X (cs : List Value) (elem : TypeId) : exact cs elem = X cs elem 0 (noRefsL cs) := rfl

theorem rd_X {cs : List Value} {elem : TypeId} {frz : Nat} {pf : Bool} {off n : Nat} {i : Nat} {l : List ABlk} (hl : l.length ≤ 1099511627774) (h : l[i]? = some (X cs elem frz pf)) :
    rdBlk (HP l) ⟨i, off, none⟩ n = if off + n ≤ cs.length then some { cells := cs, elem := elem, esz := 1, lens := [], wver := 0, frz := frz, mark := false, pf := pf } else none := by
  unfold rdBlk
  rw [HP_get l hl, h]
  simp only [rdOk, CBlk.top, CBlk.lenAt, aver, Option.getD_none, List.length_nil]
  by_cases hh : off + n ≤ cs.length
  · rw [if_pos hh, Nat.ble_eq_true_of_le hh]; rfl
  · rw [if_neg hh]
    have : Nat.ble (off + n) cs.length = false := by
      cases hb : Nat.ble (off + n) cs.length with
      | false => rfl
      | true => exact absurd (Nat.le_of_ble_eq_true hb) hh
    rw [this]; rfl

theorem load1_X {cs : List Value} {elem : TypeId} {frz : Nat} {pf : Bool} {off : Nat} {i : Nat} {l : List ABlk} (hl : l.length ≤ 1099511627774) (h : l[i]? = some (X cs elem frz pf)) :
    load1A (HP l) (.pointer (some ⟨i, off, none⟩)) = valO cs[off]? := by
  unfold load1A
  simp only [rd_X hl h]
  by_cases hh : off + 1 ≤ cs.length
  · rw [if_pos hh]
  · rw [if_neg hh, List.getElem?_eq_none (by omega)]; rfl

theorem loadN_X {cs : List Value} {elem : TypeId} {frz : Nat} {pf : Bool} {off size : Nat} {i : Nat} {l : List ABlk} (hl : l.length ≤ 1099511627774) (h : l[i]? = some (X cs elem frz pf)) (hs : off + size ≤ cs.length) :
    loadNA (HP l) size (.pointer (some ⟨i, off, none⟩)) = val (.agg (slotsOf cs off size).toArray) := by
  unfold loadNA
  simp only [rd_X hl h, if_pos hs]

theorem store_X {cs : List Value} {elem : TypeId} {frz : Nat} {pf : Bool} {off size : Nat} {i : Nat} {l : List ABlk} {v : Value} (hl : l.length ≤ 1099511627774) (h : l[i]? = some (X cs elem frz pf)) (hs : off + size ≤ cs.length) (hf : frz ≤ off)
    (hv : v.cells.size = size) (hj : isJK v = false) (ho : v.cells.toList.all oneCell = true) :
    storeA (HP l) size (.pointer (some ⟨i, off, none⟩)) v = .eff undef (HP (l.set i (X (overwrite cs off v.cells.toList) elem frz (pf && noRefsL v.cells.toList)))) := by
  have hi : i < l.length := by
    rcases Nat.lt_or_ge i l.length with h1 | h1
    · exact h1
    · rw [List.getElem?_eq_none h1] at h; cases h
  have hlen : v.cells.toList.length = size := by rw [← hv]; simp
  unfold storeA
  simp only [hv, hj, Nat.beq_refl, Bool.not_false, Bool.and_self, cond_true]
  unfold storeCellsA wrBlk
  rw [rd_X hl h, hlen, if_pos hs]
  simp only [aver, Option.getD_none, CBlk.top, List.length_nil]
  have h1 : (Nat.beq 0 (0 - 1) && (Nat.ble frz off && okKey i)) = true := by
    rw [Nat.ble_eq_true_of_le hf, show okKey i = true from Nat.ble_eq_true_of_le (by omega)]; rfl
  rw [h1, cond_true]
  simp only [ho, cond_true]
  rw [HP_set _ _ _ hi]
  rfl

end
end Go.Den
