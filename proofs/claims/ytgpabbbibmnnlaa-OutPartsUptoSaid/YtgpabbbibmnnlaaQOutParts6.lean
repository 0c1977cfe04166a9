/-
  PARTS OF A PROOF, joined by a program (6 of 6): a proved reckoner of the model, and what the functions come to.
-/
import Derived.Test.YtgpabbbibmnnlaaQOutParts5
import Derived.ChangeSame
import Derived.WideKeyArgs
import Derived.OpenShut
import Derived.WideKeyPair
import Derived.ChangeSlices
set_option linter.unusedVariables false
set_option linter.unusedSimpArgs false
namespace Go.Den
noncomputable section
variable {P : Program}
def ptrX (i : Nat) : Option CBlk → ARes
  | some _ => val (.pointer (some ⟨i, 0, none⟩))
  | none => .none
theorem wpe {i : Nat} {b : CBlk} : ptrX i (some b) = val (.pointer (some ⟨i, 0, none⟩)) := rfl
theorem wtm {v : Value} {cs : List Value} {t z : Nat} {pf : Bool} : rdX 0 1 (some (X (v :: cs) t z pf)) = some { cells := v :: cs, elem := t, esz := 1, lens := [], wver := 0, frz := z, mark := false, pf := pf } := rdX_X (by simp)
theorem wfi {h : List ABlk} (hh : h.length ≤ 1099511627774) {i : Nat} : wamb (HP h) (.pointer (some ⟨i, 0, none⟩)) = ptrX i (rdX 0 1 h[i]?) := by
  show (match wyd (HP h) ⟨i, 0, none⟩ 1 with | some _ => val (.pointer (some ⟨i, 0, none⟩)) | none => .none) = _
  rw [wjm hh]
  cases rdX 0 1 h[i]? <;> rfl
def frpX (P : Program) (u : TypeId) (i : Nat) : Option CBlk → ARes
  | some b => bif rowOk P b 0 u then val (.pointer (some ⟨i, 0, none⟩)) else .none
  | none => .none
theorem wqe {u : TypeId} {i : Nat} {cs : List Value} {t z : Nat} {pf : Bool} : frpX P u i (some { cells := cs, elem := t, esz := 1, lens := [], wver := 0, frz := z, mark := false, pf := pf }) = bif liesAt P P.depth t (cs.length / P.cellsOf t) 0 u 1 then val (.pointer (some ⟨i, 0, none⟩)) else .none := rfl
theorem wgi {h : List ABlk} (hh : h.length ≤ 1099511627774) {i : Nat} {u : TypeId} : wbmb P (HP h) u (.pointer (some ⟨i, 0, none⟩)) = frpX P u i (rdX 0 1 h[i]?) := by
  show (match wyd (HP h) ⟨i, 0, none⟩ 1 with | some b => bif rowOk P b 0 u then val (.pointer (some ⟨i, 0, none⟩)) else .none | none => .none) = _
  rw [wjm hh]
  cases rdX 0 1 h[i]? <;> rfl
theorem wum {neg : Bool} {t : TypeId} : refA neg (.pointer t) (.pointer none) (.pointer none) = val (.bool (!neg)) := rfl
theorem wvm {neg : Bool} {t : TypeId} {a : Addr} : refA neg (.pointer t) (.pointer (some a)) (.pointer none) = val (.bool neg) := rfl
theorem wwm {neg : Bool} {t : TypeId} {i : Nat} : refA neg (.pointer t) (.pointer (some ⟨i, 0, none⟩)) (.pointer (some ⟨i, 0, none⟩)) = val (.bool (!neg)) := by
  show (bif (Nat.beq i i && (Nat.beq 0 0 && Nat.beq 0 0)) then val (.bool (!neg)) else .none) = _
  rw [Nat.beq_refl]; rfl
theorem wgd {l : List UInt8} : (u8s l).length = l.length := List.length_map ..
theorem u8s_app {l m : List UInt8} : u8s l ++ u8s m = u8s (l ++ m) := by unfold u8s; rw [List.map_append]
theorem wdf (l : List UInt8) : wic (u8s l) = true := by
  induction l with
  | nil => rfl
  | cons a l ih => show (wcl (.int .u8 a.toNat) && wic (u8s l)) = true; rw [ih]; rfl
theorem wjf (l : List UInt8) : FzL (u8s l) := fzl (wdf l)
theorem u8s_all (l : List UInt8) : (u8s l).all isU8 = true := by
  rw [List.all_eq_true]
  intro v hv
  obtain ⟨b, _, rfl⟩ := List.mem_map.1 hv
  show Nat.ble b.toNat 255 = true
  have := b.toNat_lt
  rw [Nat.ble_eq]; omega
theorem u8s_back (l : List UInt8) : (u8s l).map toU8 = l := by
  unfold u8s
  rw [List.map_map]
  conv => rhs; rw [← List.map_id l]
  apply List.map_congr_left
  intro b _
  show UInt8.ofNat b.toNat = b
  simp
theorem whi {h : List ABlk} {elem bytes : Nat} {s : Value} {l : List UInt8} (hl : l ≠ []) : appA true (HP h) elem 1 bytes s (.string ⟨⟨l⟩⟩) = appN h elem 1 bytes s l.length (u8s l) := by
  unfold appA
  have h1 : lenA (.string ⟨⟨l⟩⟩) = some l.length := rfl
  have hl : 0 < l.length := List.length_pos_iff.2 hl
  obtain ⟨n, hn⟩ : ∃ n, l.length = n + 1 := ⟨l.length - 1, by omega⟩
  have h2 : wmf (HP h) 1 (n + 1) (.string ⟨⟨l⟩⟩) = some (u8s l) := by
    show (bif Nat.beq 1 1 && Nat.ble (n + 1) l.length then some (u8s (l.take (n + 1))) else none) = _
    rw [← hn, nble, decide_eq_true (Nat.le_refl _), List.take_length]; rfl
  rw [h1, hn]
  simp only [h2]
  rfl
theorem wre {h : List ABlk} {elem bytes : Nat} : appA true (HP h) elem 1 bytes (.slice none 0 0) (.string ⟨⟨[]⟩⟩) = .eff (.slice none 0 0) (HP h) := rfl
theorem wuf {h : List ABlk} {elem bytes t n : Nat} {cs : List Value} : appA true (HP h) elem 1 bytes (FO t n cs) (.string ⟨⟨[]⟩⟩) = .eff (FO t n cs) (HP h) := rfl
theorem wii {h : List ABlk} : usdA (HP h) (.slice none 0 0) = val (.pointer none) := rfl
theorem wxm {h : List ABlk} {t n : Nat} {cs : List Value} (hn : 0 < n) : usdA (HP h) (FO t n cs) = val (OP t n cs) := by
  show (bif Nat.blt 0 n then val (OP t n cs) else .none) = _
  rw [nblt, decide_eq_true hn]; rfl
theorem wvf {h : List ABlk} {u : TypeId} : wot P (HP h) u (.pointer none) (some 0) = val (.string ⟨#[]⟩) := rfl
def ustX (P : Program) (h : List ABlk) (u : TypeId) (n m : Nat) (cs : List Value) : Option ABlk → ARes
  | some (.tok k elem esz) => bif Nat.beq k m && (Nat.beq esz 1 && (Nat.ble n m && (wzg P elem u && (Nat.ble n 9223372036854775807 && (cs.take n).all isU8)))) then .eff (.string ⟨((cs.take n).map toU8).toArray⟩) (HP h) else .none
  | _ => .none
theorem wji {h : List ABlk} (hh : h.length ≤ 1099511627774) {u : TypeId} {t n m : Nat} {cs : List Value} (hn : 0 < n) : wot P (HP h) u (OP t m cs) (some n) = ustX P h u n m cs h[t]? := by
  obtain ⟨k, rfl⟩ : ∃ k, n = k + 1 := ⟨n - 1, by omega⟩
  show wzeb P (HP h) u (k + 1) m cs ((HP h).get t) = _
  rw [wte h hh]
  cases h[t]? with
  | none => rfl
  | some b => cases b <;> rfl
theorem wwf {h : List ABlk} {u elem : TypeId} {l : List UInt8} (hb : wzg P elem u = true) (hl : l.length ≤ 9223372036854775807) : ustX P h u l.length l.length (u8s l) (some (.tok l.length elem 1)) = .eff (.string ⟨⟨l⟩⟩) (HP h) := by
  show (bif Nat.beq l.length l.length && (Nat.beq 1 1 && (Nat.ble l.length l.length && (wzg P elem u && (Nat.ble l.length 9223372036854775807 && ((u8s l).take l.length).all isU8)))) then _ else _) = _
  have ht : (u8s l).take l.length = u8s l := by rw [← wgd, List.take_length]
  rw [ht, u8s_all, u8s_back, hb, nble, nble, decide_eq_true (Nat.le_refl _), decide_eq_true hl, Nat.beq_refl]
  rfl
end
end Go.Den
namespace Go.Proofs.Ytgpabbbibmnnlaa
set_option linter.unusedVariables false
set_option linter.unusedSimpArgs false
open Go.Den
noncomputable section
theorem sb_lies : liesAt Try.prog Try.prog.depth 114 (2 / Try.prog.cellsOf 114) 0 114 1 = true := by kernel_rfl
theorem sb_bytes : wzg Try.prog 5 5 = true := by kernel_rfl
abbrev sbP : Value := .pointer (some ⟨0, 0, none⟩)
abbrev SB : Nat := 114
abbrev BY : Nat := 5
def sbA (a : Bool) : Value := if a = true then sbP else .pointer none
theorem wty : sbA true = sbP := rfl
theorem wuy : sbA false = .pointer none := rfl
def sbH (a : Bool) (l : List UInt8) : List ABlk := if l = [] then [X [sbA a, .slice none 0 0] SB 0 false] else [X [sbP, FO 1 l.length (u8s l)] SB 0 false, .tok l.length BY 1]
theorem sbH_0 {a : Bool} : sbH a [] = [X [sbA a, .slice none 0 0] SB 0 false] := rfl
theorem sbH_1 {a : Bool} {l : List UInt8} (h : l ≠ []) : sbH a l = [X [sbP, FO 1 l.length (u8s l)] SB 0 false, .tok l.length BY 1] := by unfold sbH; rw [if_neg h]
theorem check_no : lim Try.prog cfg (.call 89 [sbP]) (HP [X [.pointer none, .slice none 0 0] SB 0 false]) = some (.val (.tuple ⟨[]⟩), HP [X [sbP, .slice none 0 0] SB 0 false]) := by
  refine wfd hc wzb (Nat.le_of_ble_eq_true rfl) (Nat.le_of_ble_eq_true rfl) ?_
  unfold wvb
  have h := sb_lies
  (repeat' (first | (simp -implicitDefEqProofs (maxSteps := 2000000) (disch := first | with_reducible assumption | omega | (simp only [zS, zA, seval, wdf, wgd, wjf] <;> omega) | fail) only [zS, argl, insA, Go.Den.ww, wnb, wcc, looks, wcd, wnc, idOf, riA, seval, Go.Den.wjb, kK, wum, wvm, wwm, wfi, wgi, wtm, wpe, wqe, whi, wre, wuf, wgd, wii, wxm, wvf, wji, wwf, *]) | (with_reducible (first | apply z1 | apply z2 | apply z3 | apply z4) <;> intro hq <;> (try simp only [zH] at hq) <;> (try (exfalso; omega)))))
  all_goals rfl
theorem wdsb : lim Try.prog cfg (.call 89 [sbP]) (HP [X [sbP, .slice none 0 0] SB 0 false]) = some (.val (.tuple ⟨[]⟩), HP [X [sbP, .slice none 0 0] SB 0 false]) := by
  refine wfd hc wzb (Nat.le_of_ble_eq_true rfl) (Nat.le_of_ble_eq_true rfl) ?_
  unfold wvb
  (repeat' (first | (simp -implicitDefEqProofs (maxSteps := 2000000) (disch := first | with_reducible assumption | omega | (simp only [zS, zA, seval, wdf, wgd, wjf] <;> omega) | fail) only [zS, argl, insA, Go.Den.ww, wnb, wcc, looks, wcd, wnc, idOf, riA, seval, Go.Den.wjb, kK, wum, wvm, wwm, wfi, wgi, wtm, wpe, wqe, whi, wre, wuf, wgd, wii, wxm, wvf, wji, wwf, *]) | (with_reducible (first | apply z1 | apply z2 | apply z3 | apply z4) <;> intro hq <;> (try simp only [zH] at hq) <;> (try (exfalso; omega)))))
  all_goals rfl
theorem woeb (n : Nat) (cs : List Value) : lim Try.prog cfg (.call 89 [sbP]) (HP [X [sbP, FO 1 n cs] SB 0 false, .tok n BY 1]) = some (.val (.tuple ⟨[]⟩), HP [X [sbP, FO 1 n cs] SB 0 false, .tok n BY 1]) := by
  refine wfd hc wzb (Nat.le_of_ble_eq_true rfl) (Nat.le_of_ble_eq_true rfl) ?_
  unfold wvb
  (repeat' (first | (simp -implicitDefEqProofs (maxSteps := 2000000) (disch := first | with_reducible assumption | omega | (simp only [zS, zA, seval, wdf, wgd, wjf] <;> omega) | fail) only [zS, argl, insA, Go.Den.ww, wnb, wcc, looks, wcd, wnc, idOf, riA, seval, Go.Den.wjb, kK, wum, wvm, wwm, wfi, wgi, wtm, wpe, wqe, whi, wre, wuf, wgd, wii, wxm, wvf, wji, wwf, *]) | (with_reducible (first | apply z1 | apply z2 | apply z3 | apply z4) <;> intro hq <;> (try simp only [zH] at hq) <;> (try (exfalso; omega)))))
  all_goals rfl
theorem wvy (a : Bool) : lim Try.prog cfg (.call 89 [sbP]) (HP [X [sbA a, .slice none 0 0] SB 0 false]) = some (.val (.tuple ⟨[]⟩), HP [X [sbP, .slice none 0 0] SB 0 false]) := by
  cases a with
  | true => exact wdsb
  | false => exact check_no
theorem write_00 (a : Bool) : lim Try.prog cfg (.call 63 [sbP, str []]) (HP [X [sbA a, .slice none 0 0] SB 0 false]) = some (.val (.tuple ⟨[.int .i64 0, .nilIface]⟩), HP [X [sbP, .slice none 0 0] SB 0 false]) := by
  have h := wvy a
  refine wfd hc wrb (Nat.le_of_ble_eq_true rfl) (Nat.le_of_ble_eq_true rfl) ?_
  unfold wpb
  cases a <;> simp only [wty, wuy] at h ⊢
  all_goals (repeat' (first | (simp -implicitDefEqProofs (maxSteps := 2000000) (disch := first | with_reducible assumption | omega | (simp only [zS, zA, seval, wdf, wgd, wjf] <;> omega) | fail) only [zS, argl, insA, Go.Den.ww, wnb, wcc, looks, wcd, wnc, idOf, riA, seval, Go.Den.wjb, kK, wum, wvm, wwm, wfi, wgi, wtm, wpe, wqe, whi, wre, wuf, wgd, wii, wxm, wvf, wji, wwf, *]) | (with_reducible (first | apply z1 | apply z2 | apply z3 | apply z4) <;> intro hq <;> (try simp only [zH] at hq) <;> (try (exfalso; omega)))))
  all_goals rfl
theorem write_01 (a : Bool) (s : List UInt8) (hs : s.length ≤ 2000000) (h0 : s ≠ []) : lim Try.prog cfg (.call 63 [sbP, str s]) (HP [X [sbA a, .slice none 0 0] SB 0 false]) = some (.val (.tuple ⟨[.int .i64 s.length, .nilIface]⟩), HP [X [sbP, FO 1 s.length (u8s s)] SB 0 false, .tok s.length BY 1]) := by
  have h := wvy a
  refine wfd hc wrb (Nat.le_of_ble_eq_true rfl) (Nat.le_of_ble_eq_true rfl) ?_
  unfold wpb
  cases a <;> simp only [wty, wuy] at h ⊢
  all_goals (repeat' (first | (simp -implicitDefEqProofs (maxSteps := 2000000) (disch := first | with_reducible assumption | omega | (simp only [zS, zA, seval, wdf, wgd, wjf] <;> omega) | fail) only [zS, argl, insA, Go.Den.ww, wnb, wcc, looks, wcd, wnc, idOf, riA, seval, Go.Den.wjb, kK, wum, wvm, wwm, wfi, wgi, wtm, wpe, wqe, whi, wre, wuf, wgd, wii, wxm, wvf, wji, wwf, *]) | (with_reducible (first | apply z1 | apply z2 | apply z3 | apply z4) <;> intro hq <;> (try simp only [zH] at hq) <;> (try (exfalso; omega)))))
  all_goals rfl
theorem write_10 (l : List UInt8) : lim Try.prog cfg (.call 63 [sbP, str []]) (HP [X [sbP, FO 1 l.length (u8s l)] SB 0 false, .tok l.length BY 1]) = some (.val (.tuple ⟨[.int .i64 0, .nilIface]⟩), HP [X [sbP, FO 1 l.length (u8s l)] SB 0 false, .tok l.length BY 1]) := by
  have h := woeb l.length (u8s l)
  refine wfd hc wrb (Nat.le_of_ble_eq_true rfl) (Nat.le_of_ble_eq_true rfl) ?_
  unfold wpb
  (repeat' (first | (simp -implicitDefEqProofs (maxSteps := 2000000) (disch := first | with_reducible assumption | omega | (simp only [zS, zA, seval, wdf, wgd, wjf] <;> omega) | fail) only [zS, argl, insA, Go.Den.ww, wnb, wcc, looks, wcd, wnc, idOf, riA, seval, Go.Den.wjb, kK, wum, wvm, wwm, wfi, wgi, wtm, wpe, wqe, whi, wre, wuf, wgd, wii, wxm, wvf, wji, wwf, *]) | (with_reducible (first | apply z1 | apply z2 | apply z3 | apply z4) <;> intro hq <;> (try simp only [zH] at hq) <;> (try (exfalso; omega)))))
  all_goals rfl
theorem write_11 (l s : List UInt8) (hs : l.length + s.length ≤ 2000000) (h0 : s ≠ []) : lim Try.prog cfg (.call 63 [sbP, str s]) (HP [X [sbP, FO 1 l.length (u8s l)] SB 0 false, .tok l.length BY 1]) = some (.val (.tuple ⟨[.int .i64 s.length, .nilIface]⟩), HP [X [sbP, FO 1 (l ++ s).length (u8s (l ++ s))] SB 0 false, .tok (l ++ s).length BY 1]) := by
  have h := woeb l.length (u8s l)
  rw [← u8s_app, List.length_append]
  refine wfd hc wrb (Nat.le_of_ble_eq_true rfl) (Nat.le_of_ble_eq_true rfl) ?_
  unfold wpb
  (repeat' (first | (simp -implicitDefEqProofs (maxSteps := 2000000) (disch := first | with_reducible assumption | omega | (simp only [zS, zA, seval, wdf, wgd, wjf] <;> omega) | fail) only [zS, argl, insA, Go.Den.ww, wnb, wcc, looks, wcd, wnc, idOf, riA, seval, Go.Den.wjb, kK, wum, wvm, wwm, wfi, wgi, wtm, wpe, wqe, whi, wre, wuf, wgd, wii, wxm, wvf, wji, wwf, *]) | (with_reducible (first | apply z1 | apply z2 | apply z3 | apply z4) <;> intro hq <;> (try simp only [zH] at hq) <;> (try (exfalso; omega)))))
  all_goals rfl
theorem string_0 (a : Bool) : lim Try.prog cfg (.call 64 [sbP]) (HP [X [sbA a, .slice none 0 0] SB 0 false]) = some (.val (str []), HP [X [sbA a, .slice none 0 0] SB 0 false]) := by
  refine wfd hc wod (Nat.le_of_ble_eq_true rfl) (Nat.le_of_ble_eq_true rfl) ?_
  unfold wwc
  cases a <;> simp only [wty, wuy]
  all_goals (repeat' (first | (simp -implicitDefEqProofs (maxSteps := 2000000) (disch := first | with_reducible assumption | omega | (simp only [zS, zA, seval, wdf, wgd, wjf] <;> omega) | fail) only [zS, argl, insA, Go.Den.ww, wnb, wcc, looks, wcd, wnc, idOf, riA, seval, Go.Den.wjb, kK, wum, wvm, wwm, wfi, wgi, wtm, wpe, wqe, whi, wre, wuf, wgd, wii, wxm, wvf, wji, wwf, *]) | (with_reducible (first | apply z1 | apply z2 | apply z3 | apply z4) <;> intro hq <;> (try simp only [zH] at hq) <;> (try (exfalso; omega))) | (with_reducible apply z5; (case hl => (repeat (first | exact .nil | with_reducible apply z6 | with_reducible apply z7))); (case h => kernel_rfl))))
  all_goals rfl
theorem string_1 (l : List UInt8) (h0 : 0 < l.length) (hl : l.length ≤ 2000000) : lim Try.prog cfg (.call 64 [sbP]) (HP [X [sbP, FO 1 l.length (u8s l)] SB 0 false, .tok l.length BY 1]) = some (.val (str l), HP [X [sbP, FO 1 l.length (u8s l)] SB 0 false, .tok l.length BY 1]) := by
  have h := sb_bytes
  refine wfd hc wod (Nat.le_of_ble_eq_true rfl) (Nat.le_of_ble_eq_true rfl) ?_
  unfold wwc
  (repeat' (first | (simp -implicitDefEqProofs (maxSteps := 2000000) (disch := first | with_reducible assumption | omega | (simp only [zS, zA, seval, wdf, wgd, wjf] <;> omega) | fail) only [zS, argl, insA, Go.Den.ww, wnb, wcc, looks, wcd, wnc, idOf, riA, seval, Go.Den.wjb, kK, wum, wvm, wwm, wfi, wgi, wtm, wpe, wqe, whi, wre, wuf, wgd, wii, wxm, wvf, wji, wwf, *]) | (with_reducible (first | apply z1 | apply z2 | apply z3 | apply z4) <;> intro hq <;> (try simp only [zH] at hq) <;> (try (exfalso; omega))) | (with_reducible apply z5; (case hl => (repeat (first | exact .nil | with_reducible apply z6 | with_reducible apply z7))); (case h => kernel_rfl))))
  all_goals rfl
theorem write_1 (l s : List UInt8) (hs : l.length + s.length ≤ 2000000) : lim Try.prog cfg (.call 63 [sbP, str s]) (HP [X [sbP, FO 1 l.length (u8s l)] SB 0 false, .tok l.length BY 1]) = some (.val (.tuple ⟨[.int .i64 s.length, .nilIface]⟩), HP [X [sbP, FO 1 (l ++ s).length (u8s (l ++ s))] SB 0 false, .tok (l ++ s).length BY 1]) := by
  by_cases h : s = []
  · subst h
    rw [List.append_nil]
    exact write_10 l
  · exact write_11 l s hs h
end
end Go.Proofs.Ytgpabbbibmnnlaa
namespace Go.Den
noncomputable section
def addF : List St → List St → List St
  | l, [] => l
  | l, x :: xs => addF (if x ∈ l then l else l ++ [x]) xs
theorem wwy {l xs : List St} {x : St} : addF l (x :: xs) = addF (if x ∈ l then l else l ++ [x]) xs := rfl
theorem addF_mem {y : St} : ∀ (xs l : List St), y ∈ addF l xs ↔ y ∈ l ∨ y ∈ xs := by
  intro xs
  induction xs with
  | nil => intro l; simp [addF]
  | cons x xs ih =>
    intro l
    rw [wwy, ih]
    by_cases h : x ∈ l
    · rw [if_pos h]
      constructor
      · rintro (h1 | h1)
        · exact .inl h1
        · exact .inr (List.mem_cons_of_mem _ h1)
      · rintro (h1 | h1)
        · exact .inl h1
        · rcases List.mem_cons.1 h1 with rfl | h1
          · exact .inl h
          · exact .inr h1
    · rw [if_neg h]
      simp only [List.mem_append, List.mem_cons, List.not_mem_nil, or_false]
      constructor
      · rintro ((h1 | h1) | h1)
        · exact .inl h1
        · exact .inr (.inl h1)
        · exact .inr (.inr h1)
      · rintro (h1 | h1 | h1)
        · exact .inl (.inl h1)
        · exact .inl (.inr h1)
        · exact .inr h1
theorem wkjb : ∀ (xs l : List St), l.Nodup → (addF l xs).Nodup := by
  intro xs
  induction xs with
  | nil => intro l h; exact h
  | cons x xs ih =>
    intro l h
    rw [wwy]
    by_cases hx : x ∈ l
    · rw [if_pos hx]; exact ih l h
    · rw [if_neg hx]
      refine ih _ ?_
      rw [List.nodup_append]
      refine ⟨h, by simp, ?_⟩
      intro a ha b hb
      rw [List.mem_singleton] at hb
      subst hb
      intro hab
      subst hab
      exact hx ha
def keyF (mn mx n : Int) (x : St) : Int × St := (if mx < 0 then min n mn else n, x)
def onF (w : St → List St) (mn mx : Int) : Nat → Int → St → List (Int × St) × List St → List (Int × St) × List St
  | 0, _, _, a => a
  | k + 1, n, x, a =>
    if keyF mn mx n x ∈ a.1 then a
    else
      let b := if mx < 0 ∨ n < mx then (w x).foldl (fun b y => if y.1 ≠ x.1 ∨ n < mn then onF w mn mx k (n + 1) y b else b) (a.1 ++ [keyF mn mx n x], a.2) else (a.1 ++ [keyF mn mx n x], a.2)
      if n ≥ mn then (b.1, addF b.2 [x]) else b
def backF (s : List UInt8) (n : Int) (x : St) : List St :=
  if x.2.at (n.toNat * 2) < 0 then []
  else if x.2.at (n.toNat * 2 + 1) - x.2.at (n.toNat * 2) > s.length - x.1 then []
  else if (s.take (x.2.at (n.toNat * 2 + 1)).toNat).drop (x.2.at (n.toNat * 2)).toNat ≠ (s.take (x.1 + (x.2.at (n.toNat * 2 + 1) - x.2.at (n.toNat * 2))).toNat).drop x.1.toNat then []
  else [(x.1 + (x.2.at (n.toNat * 2 + 1) - x.2.at (n.toNat * 2)), x.2)]
def fromF (w : St → List St) (l : List St) : List St := l.foldl (fun out y => addF out (w y)) []
def groupW (n : Int) (x : St) (l : List St) : List St := l.foldl (fun out y => addF out [(y.1, (y.2.put (n.toNat * 2) x.1).put (n.toNat * 2 + 1) y.1)]) []
mutual
def waysF (s : List UInt8) (bol : Bool) : Rx → St → List St
  | .mk k mn mx n set kids, x =>
    if k = 1 then (if x.1 < s.length ∧ set.getLsbD (s.getD x.1.toNat 0).toNat = true then [(x.1 + 1, x.2)] else [])
    else if k = 7 then (if x.1 = 0 ∧ bol = true then [x] else [])
    else if k = 8 then (if x.1 = s.length then [x] else [])
    else if k = 6 then backF s n x
    else if k = 5 then groupW n x (kidF s bol kids x)
    else if k = 3 then altF s bol kids x []
    else if k = 2 then catF s bol kids [x]
    else if k = 4 then (onF (fun y => kidF s bol kids y) mn mx 100 0 x ([], [])).2
    else []
def kidF (s : List UInt8) (bol : Bool) : List Rx → St → List St
  | [], _ => []
  | r :: _, x => waysF s bol r x
def altF (s : List UInt8) (bol : Bool) : List Rx → St → List St → List St
  | [], _, out => out
  | r :: rs, x, out => altF s bol rs x (addF out (waysF s bol r x))
def catF (s : List UInt8) (bol : Bool) : List Rx → List St → List St
  | [], l => l
  | r :: rs, l => catF s bol rs (fromF (fun y => waysF s bol r y) l)
end
def spanOk (len : Nat) (a b : Int) : Prop := (a = -1 ∧ b = -1) ∨ (0 ≤ a ∧ a ≤ b ∧ b ≤ len)
structure GdS (len : Nat) (x : St) : Prop where
  lo : 0 ≤ x.1
  hi : x.1 ≤ len
  m0 : x.2.at 0 = -1
  m1 : x.2.at 1 = -1
  sp : ∀ g : Nat, 1 ≤ g → g ≤ 3 → spanOk len (x.2.at (g * 2)) (x.2.at (g * 2 + 1))
theorem GdS.move {len : Nat} {x : St} (h : GdS len x) {a : Int} (h1 : 0 ≤ a) (h2 : a ≤ len) : GdS len (a, x.2) := ⟨h1, h2, h.m0, h.m1, h.sp⟩
structure RwS (len : Nat) (at0 : Int) (l : List St) : Prop where
  nd : l.Nodup
  good : ∀ y ∈ l, GdS len y ∧ at0 ≤ y.1
theorem RwS.nil {len : Nat} {a : Int} : RwS len a [] := ⟨List.nodup_nil, fun y h => (by cases h)⟩
theorem RwS.one {len : Nat} {a : Int} {x : St} (h : GdS len x) (ha : a ≤ x.1) : RwS len a [x] := ⟨by simp, fun y hy => by rw [List.mem_singleton] at hy; subst hy; exact ⟨h, ha⟩⟩
theorem RwS.add {len : Nat} {a : Int} {l xs : List St} (h : RwS len a l) (hx : ∀ y ∈ xs, GdS len y ∧ a ≤ y.1) : RwS len a (addF l xs) :=
  ⟨wkjb _ _ h.nd, fun y hy => by rcases (addF_mem _ _).1 hy with h1 | h1; exact h.good y h1; exact hx y h1⟩
theorem nodup_le {α : Type} [DecidableEq α] : ∀ (l L : List α), l.Nodup → (∀ x ∈ l, x ∈ L) → l.length ≤ L.length := by
  intro l
  induction l with
  | nil => intro L _ _; exact Nat.zero_le _
  | cons a l ih =>
    intro L hn hs
    rw [List.nodup_cons] at hn
    have ha := hs a (List.mem_cons_self ..)
    have h1 := ih (L.erase a) hn.2 (fun x hx => by
      refine (List.mem_erase_of_ne ?_).2 (hs x (List.mem_cons_of_mem _ hx))
      intro h
      subst h
      exact hn.1 hx)
    rw [List.length_erase_of_mem ha] at h1
    have := List.length_pos_of_mem ha
    rw [List.length_cons]
    omega
theorem wjv {α β : Type} {f : α → List β} {k : Nat} (h : ∀ a, (f a).length = k) (l : List α) : (l.flatMap f).length = l.length * k := by
  induction l with
  | nil => simp
  | cons a l ih => rw [List.flatMap_cons, List.length_append, h, ih, List.length_cons, Nat.add_mul]; omega
def wue (len : Nat) : List (Int × Int) := (-1, -1) :: (List.range (len + 1)).flatMap fun (a : Nat) => (List.range (len + 1 - a)).map fun (d : Nat) => ((a : Int), ((a + d : Nat) : Int))
def allSt (len : Nat) : List St := (List.range (len + 1)).flatMap fun (a : Nat) => (wue len).flatMap fun p => (wue len).flatMap fun q => (wue len).map fun r => ((a : Int), ⟨[-1, -1, p.1, p.2, q.1, q.2, r.1, r.2], rfl⟩)
theorem wwq {len : Nat} {a b : Int} (h : spanOk len a b) : (a, b) ∈ wue len := by
  unfold wue
  rcases h with ⟨rfl, rfl⟩ | ⟨h1, h2, h3⟩
  · exact List.mem_cons_self ..
  · refine List.mem_cons_of_mem _ (List.mem_flatMap.2 ⟨a.toNat, List.mem_range.2 (by omega), List.mem_map.2 ⟨(b - a).toNat, List.mem_range.2 (by omega), ?_⟩⟩)
    rw [Prod.mk.injEq]
    exact ⟨by omega, by omega⟩
theorem all_mem {len : Nat} {x : St} (h : GdS len x) : x ∈ allSt len := by
  obtain ⟨a, ⟨l, hl⟩⟩ := x
  match l, hl with
  | [c0, c1, c2, c3, c4, c5, c6, c7], hl =>
    obtain ⟨h1, h2, h3, h4, h5⟩ := h
    have e0 : c0 = -1 := h3
    have e1 : c1 = -1 := h4
    subst e0 e1
    have s1 := wwq (h5 1 (by omega) (by omega))
    have s2 := wwq (h5 2 (by omega) (by omega))
    have s3 := wwq (h5 3 (by omega) (by omega))
    have h1 : 0 ≤ a := h1
    have h2 : a ≤ len := h2
    refine List.mem_flatMap.2 ⟨a.toNat, List.mem_range.2 (by omega), List.mem_flatMap.2 ⟨_, s1, List.mem_flatMap.2 ⟨_, s2, List.mem_map.2 ⟨_, s3, ?_⟩⟩⟩⟩
    rw [Prod.mk.injEq]
    exact ⟨by omega, rfl⟩
theorem wesb : ∀ len : Nat, len ≤ 12 → (wue len).length ≤ 92 := by
  intro len h
  match len, h with
  | 0, _ => decide
  | 1, _ => decide
  | 2, _ => decide
  | 3, _ => decide
  | 4, _ => decide
  | 5, _ => decide
  | 6, _ => decide
  | 7, _ => decide
  | 8, _ => decide
  | 9, _ => decide
  | 10, _ => decide
  | 11, _ => decide
  | 12, _ => decide
theorem row_len {len : Nat} {a : Int} {l : List St} (h : RwS len a l) (hl : len ≤ 12) : l.length ≤ 11000000 := by
  have h1 := nodup_le l (allSt len) h.nd (fun x hx => all_mem (h.good x hx).1)
  have h2 : (allSt len).length = (len + 1) * ((wue len).length * ((wue len).length * (wue len).length)) := by
    unfold allSt
    rw [wjv (k := (wue len).length * ((wue len).length * (wue len).length)), List.length_range]
    intro a
    rw [wjv (k := (wue len).length * (wue len).length)]
    intro p
    rw [wjv (k := (wue len).length)]
    intro q
    rw [List.length_map]
  have h3 := wesb len hl
  have h4 : (len + 1) * ((wue len).length * ((wue len).length * (wue len).length)) ≤ 13 * (92 * (92 * 92)) :=
    Nat.mul_le_mul (by omega) (Nat.mul_le_mul h3 (Nat.mul_le_mul h3 h3))
  omega
end
end Go.Den
namespace Go.Proofs.Ytgpabbbibmnnlaa
set_option linter.unusedVariables false
set_option linter.unusedSimpArgs false
open Go.Den
noncomputable section
end
end Go.Proofs.Ytgpabbbibmnnlaa
namespace Go.Proofs.Ytgpabbbibmnnlaa
set_option linter.unusedVariables false
set_option linter.unusedSimpArgs false
open Go.Den
noncomputable section
end
end Go.Proofs.Ytgpabbbibmnnlaa
namespace Go.Proofs.Ytgpabbbibmnnlaa
set_option linter.unusedVariables false
set_option linter.unusedSimpArgs false
open Go.Den
noncomputable section
abbrev Turn := Int × St
def trC (p : Turn) : List Value := .int .i64 p.1 :: stC p.2
section
variable (s : List UInt8) (bol : Bool) (mn mx nn : Int) (set : BitVec 256) (kids : List Rx)
end
end
end Go.Proofs.Ytgpabbbibmnnlaa
namespace Go.Proofs.Ytgpabbbibmnnlaa
set_option linter.unusedVariables false
set_option linter.unusedSimpArgs false
open Go.Den
noncomputable section
section
variable (s : List UInt8) (bol : Bool) (mn mx nn : Int) (set : BitVec 256) (kids : List Rx)
end
end
end Go.Proofs.Ytgpabbbibmnnlaa
namespace Go.Proofs.Ytgpabbbibmnnlaa
set_option linter.unusedVariables false
set_option linter.unusedSimpArgs false
open Go.Den
noncomputable section
section
variable (s : List UInt8) (bol : Bool) (mn mx nn : Int) (set : BitVec 256) (kids : List Rx)
end
end
end Go.Proofs.Ytgpabbbibmnnlaa
namespace Go.Proofs.Ytgpabbbibmnnlaa
set_option linter.unusedVariables false
set_option linter.unusedSimpArgs false
open Go.Den
noncomputable section
section
variable (s : List UInt8) (bol : Bool) (mn mx nn : Int) (set : BitVec 256) (kids : List Rx)
end
end
end Go.Proofs.Ytgpabbbibmnnlaa
namespace Go.Proofs.Ytgpabbbibmnnlaa
set_option linter.unusedVariables false
set_option linter.unusedSimpArgs false
open Go.Den
noncomputable section
section
variable (s : List UInt8) (bol : Bool)
end
end
end Go.Proofs.Ytgpabbbibmnnlaa
namespace Go.Proofs.Ytgpabbbibmnnlaa
set_option linter.unusedVariables false
set_option linter.unusedSimpArgs false
open Go.Den
noncomputable section
section
variable (s : List UInt8) (bol : Bool)
end
end
end Go.Proofs.Ytgpabbbibmnnlaa
namespace Go.Proofs.Ytgpabbbibmnnlaa
set_option linter.unusedVariables false
set_option linter.unusedSimpArgs false
open Go.Den
noncomputable section
abbrev ints (l : List Int) : List Value := l.map (Value.int .i64)
theorem wpeb {P : Program} {cs : whb} {R : Type} {K : KR R} {d : Option Tmp} {l : List RO} {e : Env} {H : AH} {wr : List Nat} {want : Bool} {x : ARes} : wey P cs K d l e H wr want x undef = opsR P cs K l (e.put d undef) H := by cases want <;> rfl
theorem wfsb {want : Bool} : wtk want undef = some false := by cases want <;> rfl
end
end Go.Proofs.Ytgpabbbibmnnlaa
namespace Go.Proofs.Ytgpabbbibmnnlaa
set_option linter.unusedVariables false
set_option linter.unusedSimpArgs false
open Go.Den
noncomputable section
def wgsb (l : List Int) (r : Rx) : Bool := l.any fun a => decide (r.kind = a)
def bareF (r : Rx) : Bool := !((decide (r.kind ≠ 1) && decide (r.set ≠ 0#256)) || (decide (r.kind ≠ 4) && (decide (r.mn ≠ 0) || decide (r.mx ≠ 0)))) && (decide (r.kind = 5) || (decide (r.kind = 6) || decide (r.n = 0)))
def repF (r : Rx) : Bool := decide (0 ≤ r.mn) && (decide (r.mn ≤ 20) && (decide (r.mx = -1) || (decide (max r.mn 1 ≤ r.mx) && decide (r.mx ≤ 20))))
end
end Go.Proofs.Ytgpabbbibmnnlaa
namespace Go.Proofs.Ytgpabbbibmnnlaa
set_option linter.unusedVariables false
set_option linter.unusedSimpArgs false
open Go.Den
noncomputable section
end
end Go.Proofs.Ytgpabbbibmnnlaa
namespace Go.Den
set_option linter.unusedVariables false
set_option linter.unusedSimpArgs false
noncomputable section
mutual
def whsb : Rx → Nat
  | .mk _ _ _ _ _ kids => 1 + wisb kids
def wisb : List Rx → Nat
  | [] => 0
  | r :: l => whsb r + wisb l
end
end
end Go.Den
namespace Go.Proofs.Ytgpabbbibmnnlaa
open Go.Den
noncomputable section
def kidsOkF (r : Rx) : Bool :=
  if r.kind = 1 then decide ((r.kids.length : Int) = 0) && decide (r.set ≠ 0#256)
  else if r.kind = 2 then decide ((r.kids.length : Int) ≠ 1) && !(r.kids.any (wgsb [2, 3]))
  else if r.kind = 3 then decide ((2 : Int) ≤ r.kids.length) && !(r.kids.any (wgsb [3]))
  else if r.kind = 4 then decide ((r.kids.length : Int) = 1) && (r.kids.any (wgsb [1, 5, 6]) && repF r)
  else if r.kind = 5 then decide ((r.kids.length : Int) = 1)
  else if r.kind = 6 then decide ((r.kids.length : Int) = 0)
  else if r.kind = 7 then decide ((r.kids.length : Int) = 0)
  else if r.kind = 8 then decide ((r.kids.length : Int) = 0)
  else false
end
end Go.Proofs.Ytgpabbbibmnnlaa
namespace Go.Proofs.Ytgpabbbibmnnlaa
set_option linter.unusedVariables false
set_option linter.unusedSimpArgs false
open Go.Den
noncomputable section
mutual
def wjsb : Rx → Int → Int → Bool × Int
  | .mk k mn mx n s kids, d, g =>
    if bareF (.mk k mn mx n s kids) = true then
      if kidsOkF (.mk k mn mx n s kids) = true then
        if k = 5 then (if n = g + 1 then (if d + 1 ≤ 6 then wksb kids (d + 1) (g + 1) else (false, g + 1)) else (false, g + 1))
        else if k = 6 then (decide (1 ≤ n) && decide (n ≤ g), g)
        else wksb kids d g
      else (false, g)
    else (false, g)
def wksb : List Rx → Int → Int → Bool × Int
  | [], _, g => (true, g)
  | r :: l, d, g => if (wjsb r d g).1 = true then wksb l d (wjsb r d g).2 else (false, (wjsb r d g).2)
end
end
end Go.Proofs.Ytgpabbbibmnnlaa
namespace Go.Proofs.Ytgpabbbibmnnlaa
set_option linter.unusedVariables false
set_option linter.unusedSimpArgs false
open Go.Den
noncomputable section
def rightF (r : Rx) : Bool := decide (whsb r ≤ 40) && ((wjsb r 0 0).1 && decide ((wjsb r 0 0).2 ≤ 3))
end
end Go.Proofs.Ytgpabbbibmnnlaa
namespace Go.Proofs.Ytgpabbbibmnnlaa
set_option linter.unusedVariables false
set_option linter.unusedSimpArgs false
open Go.Den
noncomputable section
def waysAt (r : Rx) (s : List UInt8) (bol : Bool) (a : Int) : List St := if rightF r = true ∧ 0 ≤ a ∧ a ≤ s.length then waysF s bol r (a, mtNone) else []
end
end Go.Proofs.Ytgpabbbibmnnlaa
namespace Go.Proofs.Ytgpabbbibmnnlaa
set_option linter.unusedVariables false
set_option linter.unusedSimpArgs false
open Go.Den
noncomputable section
def bestF : List St → Option St → Option St
  | [], b => b
  | x :: l, none => bestF l (some x)
  | x :: l, some b => bestF l (if x.1 > b.1 then some x else some b)
end
end Go.Proofs.Ytgpabbbibmnnlaa
namespace Go.Proofs.Ytgpabbbibmnnlaa
set_option linter.unusedVariables false
set_option linter.unusedSimpArgs false
open Go.Den
noncomputable section
def firstF (r : Rx) (s : List UInt8) : Nat → Int → Option Mt
  | 0, _ => none
  | k + 1, a => match bestF (waysAt r s true a) none with
    | some b => some ((b.2.put 0 a).put 1 b.1)
    | none => firstF r s k (a + 1)
def firstR (r : Rx) (s : List UInt8) (a : Int) : Option Mt := if rightF r = true ∧ 0 ≤ a ∧ a ≤ s.length then firstF r s (s.length + 1 - a).toNat a else none
end
end Go.Proofs.Ytgpabbbibmnnlaa
namespace Go.Proofs.Ytgpabbbibmnnlaa
set_option linter.unusedVariables false
set_option linter.unusedSimpArgs false
open Go.Den
noncomputable section
end
end Go.Proofs.Ytgpabbbibmnnlaa
namespace Go.Proofs.Ytgpabbbibmnnlaa
set_option linter.unusedVariables false
set_option linter.unusedSimpArgs false
open Go.Den
noncomputable section
abbrev Pc := Int × List UInt8
def pcC (p : Pc) : List Value := [.int .i64 p.1, str p.2]
def pcsC (l : List Pc) : List Value := l.flatMap pcC
theorem wqeb {p : Pc} : (pcC p).length = 2 := rfl
theorem pc_atom {p : Pc} : wic (pcC p) = true := rfl
theorem wdl {l : List Pc} : (pcsC l).length = l.length * 2 := wom (fun _ => wqeb) l
theorem wdk {l : List Pc} {i : Nat} (h : i < l.length) : slotsOf (pcsC l) (i * 2) 2 = [.int .i64 (l.getD i (0, [])).1, str (l.getD i (0, [])).2] := wqm (fun _ => wqeb) _ l i h
theorem wreb {l : List Pc} : wic (pcsC l) = true := wrm (fun _ => pc_atom) l
theorem wjh (l : List Pc) : FzL (pcsC l) := fzl wreb
theorem wek {l : List Pc} {i : Nat} (h : i < l.length) : l.drop i = l.getD i (0, []) :: l.drop (i + 1) := by
  rw [List.drop_eq_getElem_cons h, List.getD_eq_getElem?_getD, List.getElem?_eq_getElem h]; rfl
end
end Go.Proofs.Ytgpabbbibmnnlaa
namespace Go.Proofs.Ytgpabbbibmnnlaa
set_option linter.unusedVariables false
set_option linter.unusedSimpArgs false
open Go.Den
noncomputable section
def toT (to : Int) (p : Pc) : List UInt8 := if p.1 = to then p.2 else []
def wxf (to : Int) (l : List Pc) : List UInt8 := l.flatMap (toT to)
def wqd (l : List Pc) : Nat := (l.map fun p => p.2.length).sum
theorem wpn {to : Int} {p : Pc} {l : List Pc} : wxf to (p :: l) = toT to p ++ wxf to l := List.flatMap_cons
theorem wxq {to : Int} : wxf to [] = [] := rfl
theorem wag {p : Pc} {l : List Pc} : wqd (p :: l) = p.2.length + wqd l := by unfold wqd; rw [List.map_cons, List.sum_cons]
theorem wxy : wqd [] = 0 := rfl
theorem toT_le {to : Int} {p : Pc} : (toT to p).length ≤ p.2.length := by unfold toT; split; exact Nat.le_refl _; exact Nat.zero_le _
theorem wkv {to : Int} : ∀ (l : List Pc), (wxf to l).length ≤ wqd l := by
  intro l
  induction l with
  | nil => exact Nat.le_refl _
  | cons p l ih => rw [wpn, wag, List.length_append]; have := toT_le (to := to) (p := p); omega
set_option maxHeartbeats 2000000 in
set_option maxRecDepth 20000 in
theorem text_C (to : Int) (L : List Pc) (hL : L.length ≤ 100) : ∀ (k i : Nat) (l : List UInt8), i + k = L.length → l ≠ [] → l.length + wqd (L.drop i) ≤ 2000000 →
    lim Try.prog cfg (.loop 18 0 (wkg 0) (SE (EJ 23 G0) [(10, .int .i64 i), (9, .int .i64 L.length), (8, FL L.length (pcsC L)), (5, sbP), (0, .int .i64 to)])) (HP [X [sbP, FO 1 l.length (u8s l)] SB 0 false, .tok l.length BY 1]) = some (.code (.exit 0) (SE (EJ 23 G0) [(5, sbP)]), HP [X [sbP, FO 1 (l ++ wxf to (L.drop i)).length (u8s (l ++ wxf to (L.drop i)))] SB 0 false, .tok (l ++ wxf to (L.drop i)).length BY 1]) := by
  intro k
  induction k with
  | zero =>
    intro i l hi hne hl
    rw [List.drop_of_length_le (by omega), wxq, List.append_nil]
    clear hl
    refine wcf wdc ?_
    unfold wqc
    (repeat' (first | (simp -implicitDefEqProofs (maxSteps := 2000000) (disch := first | with_reducible assumption | omega | (simp only [zS, zA, seval, wjf, wjh, zD] <;> omega) | fail) only [zS, argl, insA, Go.Den.ww, wnb, wcc, looks, wcd, wnc, idOf, riA, seval, Go.Den.wjb, kK, wrc, *, zT]) | (with_reducible (first | apply z1 | apply z2 | apply z3 | apply z4) <;> intro hq <;> (try simp only [zH] at hq) <;> (try (exfalso; omega)))))
  | succ k ih =>
    intro i l hi hne hl
    have hlt : i < L.length := by omega
    rw [wek hlt, wag] at hl
    rw [wek hlt, wpn]
    have hq : (if (L.getD i (0, [])).1 = to then (L.getD i (0, [])).2 else []) = toT to (L.getD i (0, [])) := rfl
    have hle := toT_le (to := to) (p := L.getD i (0, []))
    generalize toT to (L.getD i (0, [])) = p at *
    have hlen : (pcsC L).length = L.length * 2 := wdl
    have hle2 : i * 2 + 2 ≤ (pcsC L).length := by omega
    have hi2 : i + 1 + k = L.length := by omega
    by_cases h1 : (L.getD i (0, [])).1 = to
    · rw [if_pos h1] at hq
      have h := ih (i + 1) (l ++ p) hi2 (by simp [hne]) (by rw [List.length_append]; omega)
      rw [← List.append_assoc]
      generalize l ++ p ++ wxf to (L.drop (i + 1)) = R at h ⊢
      have hw := write_1 l p (by omega)
      generalize l ++ p = l2 at h hw
      clear ih hl hle
      refine wcf wdc ?_
      unfold wqc
      (repeat' (first | (simp -implicitDefEqProofs (maxSteps := 2000000) (disch := first | with_reducible assumption | omega | (simp only [zS, zA, seval, wjf, wjh, zD] <;> omega) | fail) only [zS, argl, insA, Go.Den.ww, wnb, wcc, looks, wcd, wnc, idOf, riA, seval, Go.Den.wjb, kK, wrc, wdk, *, zT]) | (with_reducible (first | apply z1 | apply z2 | apply z3 | apply z4) <;> intro hq <;> (try simp only [zH] at hq) <;> (try (exfalso; omega)))))
      all_goals exact h
    · rw [if_neg h1] at hq
      subst hq
      have h := ih (i + 1) l hi2 hne (by omega)
      rw [List.nil_append]
      generalize l ++ wxf to (L.drop (i + 1)) = R at h ⊢
      clear ih hl hle
      refine wcf wdc ?_
      unfold wqc
      (repeat' (first | (simp -implicitDefEqProofs (maxSteps := 2000000) (disch := first | with_reducible assumption | omega | (simp only [zS, zA, seval, wjf, wjh, zD] <;> omega) | fail) only [zS, argl, insA, Go.Den.ww, wnb, wcc, looks, wcd, wnc, idOf, riA, seval, Go.Den.wjb, kK, wrc, wdk, *, zT]) | (with_reducible (first | apply z1 | apply z2 | apply z3 | apply z4) <;> intro hq <;> (try simp only [zH] at hq) <;> (try (exfalso; omega)))))
      all_goals exact h
set_option maxHeartbeats 4000000 in
theorem text_N (to : Int) (L : List Pc) (hL : L.length ≤ 100) : ∀ (k i : Nat) (a : Bool), i + k = L.length → wqd (L.drop i) ≤ 2000000 →
    ∃ b : Bool, lim Try.prog cfg (.loop 18 0 (wkg 0) (SE (EJ 23 G0) [(10, .int .i64 i), (9, .int .i64 L.length), (8, FL L.length (pcsC L)), (5, sbP), (0, .int .i64 to)])) (HP [X [sbA a, .slice none 0 0] SB 0 false]) = some (.code (.exit 0) (SE (EJ 23 G0) [(5, sbP)]), HP (sbH b (wxf to (L.drop i)))) := by
  intro k
  induction k with
  | zero =>
    intro i a hi hl
    refine ⟨a, ?_⟩
    rw [List.drop_of_length_le (by omega), wxq, sbH_0]
    clear hl
    refine wcf wdc ?_
    unfold wqc
    cases a <;> simp only [wty, wuy]
    all_goals (repeat' (first | (simp -implicitDefEqProofs (maxSteps := 2000000) (disch := first | with_reducible assumption | omega | (simp only [zS, zA, seval, wjf, wjh, zD] <;> omega) | fail) only [zS, argl, insA, Go.Den.ww, wnb, wcc, looks, wcd, wnc, idOf, riA, seval, Go.Den.wjb, kK, wrc, *, zT]) | (with_reducible (first | apply z1 | apply z2 | apply z3 | apply z4) <;> intro hq <;> (try simp only [zH] at hq) <;> (try (exfalso; omega)))))
  | succ k ih =>
    intro i a hi hl
    have hlt : i < L.length := by omega
    rw [wek hlt, wag] at hl
    rw [wek hlt, wpn]
    have hi2 : i + 1 + k = L.length := by omega
    have hlen : (pcsC L).length = L.length * 2 := wdl
    have hle2 : i * 2 + 2 ≤ (pcsC L).length := by omega
    by_cases h1 : (L.getD i (0, [])).1 = to
    · have hq : toT to (L.getD i (0, [])) = (L.getD i (0, [])).2 := if_pos h1
      rw [hq]
      by_cases h0 : (L.getD i (0, [])).2 = []
      · obtain ⟨b, h⟩ := ih (i + 1) true hi2 (by omega)
        refine ⟨b, ?_⟩
        rw [h0, List.nil_append]
        generalize sbH b (wxf to (L.drop (i + 1))) = R at h ⊢
        have hw := write_00 a
        clear ih hl hq
        cases a <;> simp only [wty, wuy] at hw h ⊢
        all_goals
          refine wcf wdc ?_
          unfold wqc
          (repeat' (first | (simp -implicitDefEqProofs (maxSteps := 2000000) (disch := first | with_reducible assumption | omega | (simp only [zS, zA, seval, wjf, wjh, zD] <;> omega) | fail) only [zS, argl, insA, Go.Den.ww, wnb, wcc, looks, wcd, wnc, idOf, riA, seval, Go.Den.wjb, kK, wrc, wdk, *, zT]) | (with_reducible (first | apply z1 | apply z2 | apply z3 | apply z4) <;> intro hq <;> (try simp only [zH] at hq) <;> (try (exfalso; omega)))))
          first | exact h | trace_state
      · refine ⟨true, ?_⟩
        have h := text_C to L hL k (i + 1) (L.getD i (0, [])).2 hi2 h0 (by omega)
        have hne : (L.getD i (0, [])).2 ++ wxf to (L.drop (i + 1)) ≠ [] := fun h => h0 (List.append_eq_nil_iff.1 h).1
        rw [sbH_1 hne]
        generalize (L.getD i (0, [])).2 ++ wxf to (L.drop (i + 1)) = R at h ⊢
        have hw := write_01 a (L.getD i (0, [])).2 (by omega) h0
        clear ih hl hq hne
        cases a <;> simp only [wty, wuy] at hw h ⊢
        all_goals
          refine wcf wdc ?_
          unfold wqc
          (repeat' (first | (simp -implicitDefEqProofs (maxSteps := 2000000) (disch := first | with_reducible assumption | omega | (simp only [zS, zA, seval, wjf, wjh, zD] <;> omega) | fail) only [zS, argl, insA, Go.Den.ww, wnb, wcc, looks, wcd, wnc, idOf, riA, seval, Go.Den.wjb, kK, wrc, wdk, *, zT]) | (with_reducible (first | apply z1 | apply z2 | apply z3 | apply z4) <;> intro hq <;> (try simp only [zH] at hq) <;> (try (exfalso; omega)))))
          first | exact h | trace_state
    · have hq : toT to (L.getD i (0, [])) = [] := if_neg h1
      rw [hq, List.nil_append]
      obtain ⟨b, h⟩ := ih (i + 1) a hi2 (by omega)
      refine ⟨b, ?_⟩
      generalize sbH b (wxf to (L.drop (i + 1))) = R at h ⊢
      clear ih hl hq
      cases a <;> simp only [wty, wuy] at h ⊢
      all_goals
        refine wcf wdc ?_
        unfold wqc
        (repeat' (first | (simp -implicitDefEqProofs (maxSteps := 2000000) (disch := first | with_reducible assumption | omega | (simp only [zS, zA, seval, wjf, wjh, zD] <;> omega) | fail) only [zS, argl, insA, Go.Den.ww, wnb, wcc, looks, wcd, wnc, idOf, riA, seval, Go.Den.wjb, kK, wrc, wdk, *, zT]) | (with_reducible (first | apply z1 | apply z2 | apply z3 | apply z4) <;> intro hq <;> (try simp only [zH] at hq) <;> (try (exfalso; omega)))))
        first | exact h | trace_state
theorem wljb (a : Bool) (l : List UInt8) (hl : l.length ≤ 2000000) : lim Try.prog cfg (.call 64 [sbP]) (HP (sbH a l)) = some (.val (str l), HP (sbH a l)) := by
  by_cases h : l = []
  · subst h
    rw [sbH_0]
    exact string_0 a
  · rw [sbH_1 h]
    exact string_1 l (List.length_pos_iff.2 h) hl
theorem wwo (to : Int) (L : List Pc) (hL : L.length ≤ 100) (hs : wqd L ≤ 2000000) : lim Try.prog cfg (.call 18 [.int .i64 to, FL L.length (pcsC L)]) (HP []) = some (.val (str (wxf to L)), HP []) := by
  obtain ⟨b, h⟩ := text_N to L hL L.length 0 false (by omega) (by rw [List.drop_zero]; exact hs)
  have hle := wkv (to := to) L
  rw [List.drop_zero, show ((0 : Nat) : Int) = 0 from rfl, show sbA false = .pointer none from rfl] at h
  generalize wxf to L = R at *
  have hw := wljb b R (by omega)
  clear hle hs
  refine wfd hc wqr (Nat.le_of_ble_eq_true rfl) (Nat.le_of_ble_eq_true rfl) ?_
  unfold wtq
  by_cases hR : R = []
  case' pos =>
    subst hR
    rw [sbH_0] at h hw
    cases b <;> simp only [wty, wuy] at h hw
  case' neg => rw [sbH_1 hR] at h hw
  all_goals (repeat' (first | (simp -implicitDefEqProofs (maxSteps := 2000000) (disch := first | with_reducible assumption | omega | (simp only [zS, zA, seval, wjf, wjh, zD] <;> omega) | fail) only [zS, argl, insA, Go.Den.ww, wnb, wcc, looks, wcd, wnc, idOf, riA, seval, Go.Den.wjb, kK, wrc, *, zT]) | (with_reducible (first | apply z1 | apply z2 | apply z3 | apply z4) <;> intro hq <;> (try simp only [zH] at hq) <;> (try (exfalso; omega)))))
theorem wlsb (L : List Pc) (hL : L.length ≤ 100) : ∀ (k i : Nat) (n : Nat), i + k = L.length → n + wqd (L.drop i) ≤ 2000000 →
    lim Try.prog cfg (.loop 21 0 (wci 0) (SE (EJ 19 G0) [(8, .int .i64 i), (7, .int .i64 L.length), (6, FL L.length (pcsC L)), (3, .int .i64 n)])) (HP []) = some (.code (.exit 0) (SE (EJ 19 G0) [(3, .int .i64 (n + wqd (L.drop i) : Nat))]), HP []) := by
  intro k
  induction k with
  | zero =>
    intro i n hi hl
    rw [List.drop_of_length_le (by omega), wxy, Nat.add_zero]
    clear hl
    refine wcf wki ?_
    unfold wdi
    (repeat' (first | (simp -implicitDefEqProofs (maxSteps := 2000000) (disch := first | with_reducible assumption | omega | (simp only [zS, zA, seval, wjh, zD] <;> omega) | fail) only [zS, argl, insA, Go.Den.ww, wnb, wcc, looks, wcd, wnc, idOf, riA, seval, Go.Den.wjb, kK, wei, *, zT]) | (with_reducible (first | apply z1 | apply z2 | apply z3 | apply z4) <;> intro hq <;> (try simp only [zH] at hq) <;> (try (exfalso; omega)))))
  | succ k ih =>
    intro i n hi hl
    have hlt : i < L.length := by omega
    rw [wek hlt, wag] at hl
    rw [wek hlt, wag]
    have hlen : (pcsC L).length = L.length * 2 := wdl
    have h := ih (i + 1) (n + (L.getD i (0, [])).2.length) (by omega) (by omega)
    rw [show n + ((L.getD i (0, [])).2.length + wqd (L.drop (i + 1))) = n + (L.getD i (0, [])).2.length + wqd (L.drop (i + 1)) by omega]
    have hb : (L.getD i (0, [])).2.length ≤ 2000000 := by omega
    have hb2 : n ≤ 2000000 := by omega
    generalize n + (L.getD i (0, [])).2.length + wqd (L.drop (i + 1)) = R at h ⊢
    clear ih hl
    refine wcf wki ?_
    unfold wdi
    (repeat' (first | (simp -implicitDefEqProofs (maxSteps := 2000000) (disch := first | with_reducible assumption | omega | (simp only [zS, zA, seval, wjh, zD] <;> omega) | fail) only [zS, argl, insA, Go.Den.ww, wnb, wcc, looks, wcd, wnc, idOf, riA, seval, Go.Den.wjb, kK, wei, wdk, *, zT]) | (with_reducible (first | apply z1 | apply z2 | apply z3 | apply z4) <;> intro hq <;> (try simp only [zH] at hq) <;> (try (exfalso; omega)))))
    all_goals exact h
theorem wxo (L : List Pc) (hL : L.length ≤ 100) (hs : wqd L ≤ 2000000) : lim Try.prog cfg (.call 21 [FL L.length (pcsC L)]) (HP []) = some (.val (.int .i64 (wqd L)), HP []) := by
  have h := wlsb L hL L.length 0 0 (by omega) (by rw [List.drop_zero]; omega)
  rw [List.drop_zero, Nat.zero_add, show ((0 : Nat) : Int) = 0 from rfl] at h
  clear hs
  refine wfd hc wrr (Nat.le_of_ble_eq_true rfl) (Nat.le_of_ble_eq_true rfl) ?_
  unfold wuq
  (repeat' (first | (simp -implicitDefEqProofs (maxSteps := 2000000) (disch := first | with_reducible assumption | omega | (simp only [zS, zA, seval, wjh, zD] <;> omega) | fail) only [zS, argl, insA, Go.Den.ww, wnb, wcc, looks, wcd, wnc, idOf, riA, seval, Go.Den.wjb, kK, wei, *, zT]) | (with_reducible (first | apply z1 | apply z2 | apply z3 | apply z4) <;> intro hq <;> (try simp only [zH] at hq) <;> (try (exfalso; omega)))))
theorem ev_Pack0 : lim Try.prog cfg (.call 17 [FL 0 []]) (HP []) = some (.val (FL 0 []), HP []) := by
  have h : lim Try.prog cfg (.loop 17 0 (wbi 0) (SE (EJ 44 G0) [(10, .int .i64 0), (9, .int .i64 0), (8, FL 0 []), (3, .slice none 0 0)])) (HP []) = some (.code (.exit 0) (SE (EJ 44 G0) [(3, .slice none 0 0)]), HP []) := by
    refine wcf wjo ?_
    unfold wnm
    (repeat' (first | (simp -implicitDefEqProofs (maxSteps := 2000000) (disch := first | with_reducible assumption | omega | (simp only [zS, zA, seval, zD] <;> omega) | fail) only [zS, argl, insA, Go.Den.ww, wnb, wcc, looks, wcd, wnc, idOf, riA, seval, Go.Den.wjb, kK, wsm, *, zT]) | (with_reducible (first | apply z1 | apply z2 | apply z3 | apply z4) <;> intro hq <;> (try simp only [zH] at hq) <;> (try (exfalso; omega))) | (with_reducible apply z5; (case hl => (repeat (first | exact .nil | with_reducible apply z6 | with_reducible apply z7))); (case h => kernel_rfl))))
  refine wfd hc wpr (Nat.le_of_ble_eq_true rfl) (Nat.le_of_ble_eq_true rfl) ?_
  unfold wsq
  (repeat' (first | (simp -implicitDefEqProofs (maxSteps := 2000000) (disch := first | with_reducible assumption | omega | (simp only [zS, zA, seval, zD] <;> omega) | fail) only [zS, argl, insA, Go.Den.ww, wnb, wcc, looks, wcd, wnc, idOf, riA, seval, Go.Den.wjb, kK, wsm, *, zT]) | (with_reducible (first | apply z1 | apply z2 | apply z3 | apply z4) <;> intro hq <;> (try simp only [zH] at hq) <;> (try (exfalso; omega))) | (with_reducible apply z5; (case hl => (repeat (first | exact .nil | with_reducible apply z6 | with_reducible apply z7))); (case h => kernel_rfl))))
end
end Go.Proofs.Ytgpabbbibmnnlaa
namespace Go.Den
noncomputable section
section
variable {len : Nat} {s : List UInt8} {bol : Bool} {Q : St → Prop}
end
end
end Go.Den
namespace Go.Proofs.Ytgpabbbibmnnlaa
open Go.Den
noncomputable section
def SpOk (m : Mt) : Prop := ∀ g : Nat, 1 ≤ g → g ≤ 3 → 0 ≤ m.at (g * 2) → m.at 0 ≤ m.at (g * 2) ∧ m.at (g * 2 + 1) ≤ m.at 1
def BehF (r : Rx) (s : List UInt8) (p m : Mt) : Prop :=
  p.at 1 ≤ m.at 0 ∧ ¬ (m.at 0 = m.at 1 ∧ m.at 0 = p.at 1) ∧ ∃ x, firstR r s (p.at 1) = some x ∧ 0 ≤ x.at 0 ∧ x.at 0 ≤ m.at 0 ∧ (x.at 0 = m.at 0 ∨ x.at 0 = x.at 1)
structure MtOk (r : Rx) (s : List UInt8) (prev : Option Mt) (m : Mt) : Prop where
  lo : 0 ≤ m.at 0
  le : m.at 0 ≤ m.at 1
  hi : m.at 1 ≤ s.length
  sp : SpOk m
  fst : prev = none → firstR r s 0 = some m
  beh : ∀ p, prev = some p → BehF r s p m
end
end Go.Proofs.Ytgpabbbibmnnlaa
namespace Go.Proofs.Ytgpabbbibmnnlaa
set_option linter.unusedVariables false
set_option linter.unusedSimpArgs false
open Go.Den
noncomputable section
def slG (size n : Nat) (cs : List Value) : Option Nat → Option Nat → ARes
  | some l, some h => bif Nat.ble l h && (Nat.ble h n && Nat.beq (n * size) cs.length) then (bif Nat.beq l h then val (FL 0 []) else val (FL (h - l) (slotsOf cs (l * size) ((h - l) * size)))) else .none
  | _, _ => .none
theorem wmsb {e : Env} {H : AH} {size n : Nat} {cs : List Value} {x : Operand} : slSR e H size (FL n cs) (some x) none none = slG size n cs (wsc (evl e x)) (some n) := by
  show (match wsc (evl e x), some n with
    | some l, some h => slF2 size (n, cs) e none none l h
    | _, _ => .none) = _
  cases wsc (evl e x) <;> rfl
theorem wnsb {e : Env} {H : AH} {size n : Nat} {cs : List Value} {y : Operand} : slSR e H size (FL n cs) none (some y) none = slG size n cs (some 0) (wsc (evl e y)) := by
  show (match some 0, wsc (evl e y) with
    | some l, some h => slF2 size (n, cs) e (some y) none l h
    | _, _ => .none) = _
  cases wsc (evl e y) <;> rfl
theorem slG_some {size n l h : Nat} {cs : List Value} (h1 : l < h) (h2 : h ≤ n) (h3 : n * size = cs.length) : slG size n cs (some l) (some h) = val (FL (h - l) (slotsOf cs (l * size) ((h - l) * size))) := by
  show (bif Nat.ble l h && (Nat.ble h n && Nat.beq (n * size) cs.length) then (bif Nat.beq l h then val (FL 0 []) else _) else .none) = _
  rw [nble, nble, nbeq, nbeq, decide_eq_true (Nat.le_of_lt h1), decide_eq_true h2, decide_eq_true h3, decide_eq_false (by omega)]
  rfl
end
end Go.Proofs.Ytgpabbbibmnnlaa
namespace Go.Proofs.Ytgpabbbibmnnlaa
open Go.Den
noncomputable section
theorem wosb {size n l h : Nat} {cs : List Value} (h1 : l ≤ h) (h2 : h ≤ n) (h3 : n * size = cs.length) : slG size n cs (some l) (some h) = val (FL (h - l) (slotsOf cs (l * size) ((h - l) * size))) := by
  by_cases e : l = h
  · subst e
    show (bif Nat.ble l l && (Nat.ble l n && Nat.beq (n * size) cs.length) then (bif Nat.beq l l then val (FL 0 []) else _) else .none) = _
    rw [nble, nble, nbeq, nbeq, decide_eq_true h1, decide_eq_true h2, decide_eq_true h3, decide_eq_true rfl, Nat.sub_self, Nat.zero_mul]
    unfold slotsOf
    rw [List.take_zero]
    rfl
  · exact slG_some (by omega) h2 h3
theorem wpsb {l : List Pc} {n k : Nat} (h : n + k ≤ l.length) : slotsOf (pcsC l) (n * 2) (k * 2) = pcsC ((l.drop n).take k) := by
  induction l generalizing n with
  | nil =>
    have : n = 0 ∧ k = 0 := by simp at h; omega
    rw [this.1, this.2]; rfl
  | cons m l ih =>
    cases n with
    | succ n =>
      have h2 := ih (n := n) (by rw [List.length_cons] at h; omega)
      rw [List.drop_succ_cons, ← h2]
      unfold slotsOf
      rw [show pcsC (m :: l) = pcC m ++ pcsC l by rw [pcsC, pcsC, List.flatMap_cons], show (n + 1) * 2 = (pcC m).length + n * 2 by rw [wqeb]; omega, List.drop_append, List.drop_of_length_le (by omega), List.nil_append]
      congr 2
      omega
    | zero =>
      clear ih
      rw [List.drop_zero, Nat.zero_mul]
      generalize m :: l = l at *
      unfold slotsOf
      rw [List.drop_zero]
      induction k generalizing l with
      | zero => rw [Nat.zero_mul, List.take_zero, List.take_zero]; rfl
      | succ k ih =>
        cases l with
        | nil => simp at h
        | cons m l =>
          rw [List.take_succ_cons, show pcsC (m :: l) = pcC m ++ pcsC l by rw [pcsC, pcsC, List.flatMap_cons], show pcsC (m :: l.take k) = pcC m ++ pcsC (l.take k) by rw [pcsC, pcsC, List.flatMap_cons]]
          rw [← ih l (by rw [List.length_cons] at h; omega), show (k + 1) * 2 = (pcC m).length + k * 2 by rw [wqeb]; omega, List.take_append]
          rw [List.take_of_length_le (show (pcC m).length ≤ (pcC m).length + k * 2 by omega)]
          congr 2
          omega
theorem wyy {l : List Pc} {c : Nat} (h : c ≤ l.length) : slG 2 l.length (pcsC l) (some 0) (some c) = val (FL (l.take c).length (pcsC (l.take c))) := by
  rw [wosb (Nat.zero_le _) h wdl.symm, wpsb (by omega), List.drop_zero, List.length_take, Nat.sub_zero, Nat.min_eq_left h]
theorem wqsb {l : List Pc} {c : Nat} (h : c ≤ l.length) : slG 2 l.length (pcsC l) (some c) (some l.length) = val (FL (l.drop c).length (pcsC (l.drop c))) := by
  rw [wosb h (Nat.le_refl _) wdl.symm, wpsb (by omega), List.length_drop, List.take_of_length_le (by rw [List.length_drop]; omega)]
theorem wqn {h : List ABlk} (hh : h.length ≤ 1099511627774) {elem size bytes i n : Nat} {new : List Value} (hn : n ≤ 16777216) (h0 : 0 < n) (hb : bytes ≤ 1048576) (ha : wic (nfL new) = true) :
    appN h elem size bytes (.slice (some ⟨i, 0, none⟩) 0 1) n new = .eff (FO h.length n (nfL new)) (HP (h ++ [.tok n elem size])) := by
  rw [← wcsb hh (elem := elem) (size := size) hn hb ha]
  show (bif roomy (0 + n) bytes && Nat.ble 0 0 then wmh true (HP h) elem size (.slice (some ⟨i, 0, none⟩) 0 1) ⟨i, 0, none⟩ 0 0 n new else .none) = (bif roomy n bytes then wce true (HP h) elem size new n else .none)
  unfold wmh
  rw [Nat.zero_add, nble, nble, decide_eq_false (show ¬ n ≤ 0 by omega)]
  simp
theorem pcs_nf {l : List Pc} : nfL (pcsC l) = pcsC l := wck wreb
theorem wzs {h : List ABlk} (hh : h.length ≤ 1099511627774) {elem size bytes i n : Nat} {new : List Value} (hn : n ≤ 16777216) (h0 : 0 < n) (hb : bytes ≤ 1048576) (ha : wic new = true) :
    appN h elem size bytes (.slice (some ⟨i, 0, none⟩) 0 1) n new = .eff (FO h.length n new) (HP (h ++ [.tok n elem size])) := by
  rw [wqn hh hn h0 hb (by rw [wck ha]; exact ha), wck ha]
theorem wzy {h : List ABlk} {elem size bytes i : Nat} {cs : List Value} : appA true (HP h) elem size bytes (.slice (some ⟨i, 0, none⟩) 0 1) (FL 0 cs) = .eff (.slice (some ⟨i, 0, none⟩) 0 1) (HP h) := rfl
end
end Go.Proofs.Ytgpabbbibmnnlaa
namespace Go.Proofs.Ytgpabbbibmnnlaa
open Go.Den
noncomputable section
end
end Go.Proofs.Ytgpabbbibmnnlaa
namespace Go.Proofs.Ytgpabbbibmnnlaa
set_option linter.unusedVariables false
set_option linter.unusedSimpArgs false
open Go.Den
noncomputable section
end
end Go.Proofs.Ytgpabbbibmnnlaa
namespace Go.Proofs.Ytgpabbbibmnnlaa
set_option linter.unusedVariables false
set_option linter.unusedSimpArgs false
open Go.Den
noncomputable section
end
end Go.Proofs.Ytgpabbbibmnnlaa
namespace Go.Proofs.Ytgpabbbibmnnlaa
set_option linter.unusedVariables false
set_option linter.unusedSimpArgs false
open Go.Den
noncomputable section
abbrev mkB (ks ns : List Int) (ere : Bool) : List Value := [FL ks.length (ints ks), FL ns.length (ints ns), .bool ere, .pointer (some ⟨0, 0, none⟩), .pointer (some ⟨1, 0, none⟩), .pointer (some ⟨2, 0, none⟩)]
abbrev mkH (a g l : Int) : List ABlk := [X [.int .i64 a] 3 0 true, X [.int .i64 g] 3 0 true, X [.int .i64 l] 3 0 true]
end
end Go.Proofs.Ytgpabbbibmnnlaa
namespace Go.Proofs.Ytgpabbbibmnnlaa
set_option linter.unusedVariables false
set_option linter.unusedSimpArgs false
open Go.Den
noncomputable section
end
end Go.Proofs.Ytgpabbbibmnnlaa
namespace Go.Proofs.Ytgpabbbibmnnlaa
set_option linter.unusedVariables false
set_option linter.unusedSimpArgs false
open Go.Den
noncomputable section
end
end Go.Proofs.Ytgpabbbibmnnlaa
namespace Go.Proofs.Ytgpabbbibmnnlaa
set_option linter.unusedVariables false
set_option linter.unusedSimpArgs false
open Go.Den
noncomputable section
end
end Go.Proofs.Ytgpabbbibmnnlaa
namespace Go.Proofs.Ytgpabbbibmnnlaa
set_option linter.unusedVariables false
set_option linter.unusedSimpArgs false
open Go.Den
noncomputable section
end
end Go.Proofs.Ytgpabbbibmnnlaa
namespace Go.Proofs.Ytgpabbbibmnnlaa
set_option linter.unusedVariables false
set_option linter.unusedSimpArgs false
open Go.Den
noncomputable section
end
end Go.Proofs.Ytgpabbbibmnnlaa
namespace Go.Proofs.Ytgpabbbibmnnlaa
set_option linter.unusedVariables false
set_option linter.unusedSimpArgs false
open Go.Den
noncomputable section
def rxK (t n : Nat) (c : List Value) : List Value := [.int .i64 2, .int .i64 0, .int .i64 0, .int .i64 0, .int .u64 0, .int .u64 0, .int .u64 0, .int .u64 0, FO t n c]
def PkOk (ks ns : List Int) (ere : Bool) (args : List Value) (M : Nat) : Prop :=
  ∀ (a : Nat) (g l : Int), a + M ≤ 100000 → 0 ≤ g → g ≤ 3 → -1000000 + 2 * (M : Int) ≤ l → l ≤ 1000 →
    ∃ (r : Rx) (a' : Nat) (g' l' : Int), ((lim Try.prog cfg (.call 95 (.agg ⟨mkB ks ns ere⟩ :: args)) (HP (mkH a g l)) = some (.val (.agg ⟨rxC r⟩), HP (mkH a' g' l')) ∧ r.kind ≠ 2) ∨
      ∃ rs : List Rx, r = .mk 2 0 0 0 0#256 rs ∧ 2 ≤ rs.length ∧ rs.length ≤ 3 ∧ lim Try.prog cfg (.call 95 (.agg ⟨mkB ks ns ere⟩ :: args)) (HP (mkH a g l)) = some (.val (.agg ⟨rxK 3 rs.length (rxsC rs)⟩), HP (mkH a' g' l' ++ [.tok rs.length 47 9])))
      ∧ whsb r ≤ M ∧ a' ≤ a + M ∧ 0 ≤ g' ∧ g' ≤ 3 ∧ l - 2 * (M : Int) ≤ l' ∧ l' ≤ l
end
end Go.Proofs.Ytgpabbbibmnnlaa
namespace Go.Proofs.Ytgpabbbibmnnlaa
set_option linter.unusedVariables false
set_option linter.unusedSimpArgs false
open Go.Den
noncomputable section
end
end Go.Proofs.Ytgpabbbibmnnlaa
namespace Go.Proofs.Ytgpabbbibmnnlaa
set_option linter.unusedVariables false
set_option linter.unusedSimpArgs false
open Go.Den
noncomputable section
end
end Go.Proofs.Ytgpabbbibmnnlaa
namespace Go.Proofs.Ytgpabbbibmnnlaa
set_option linter.unusedVariables false
set_option linter.unusedSimpArgs false
open Go.Den
noncomputable section
theorem PkOk.mono {ks ns : List Int} {ere : Bool} {args : List Value} {M N : Nat} (h : PkOk ks ns ere args M) (hMN : M ≤ N) : PkOk ks ns ere args N := by
  intro a g l ha hg hg3 hl hl2
  obtain ⟨r, a', g', l', e, b1, b2, b3, b4, b5, b6⟩ := h a g l (by omega) hg hg3 (by omega) hl2
  exact ⟨r, a', g', l', e, by omega, by omega, b3, b4, by omega, b6⟩
end
end Go.Proofs.Ytgpabbbibmnnlaa
namespace Go.Proofs.Ytgpabbbibmnnlaa
set_option linter.unusedVariables false
set_option linter.unusedSimpArgs false
open Go.Den
noncomputable section
end
end Go.Proofs.Ytgpabbbibmnnlaa
namespace Go.Proofs.Ytgpabbbibmnnlaa
open Go.Den
noncomputable section
end
end Go.Proofs.Ytgpabbbibmnnlaa
namespace Go.Den
noncomputable section
end
end Go.Den
namespace Go.Proofs.Ytgpabbbibmnnlaa
set_option linter.unusedVariables false
set_option linter.unusedSimpArgs false
open Go.Den
noncomputable section
theorem waz (n hi : Int) (h0 : 0 ≤ hi) : 0 ≤ wnj n 0 hi ∧ wnj n 0 hi ≤ hi := by
  unfold wnj
  have h1 := Int.emod_nonneg n (show hi - 0 + 1 ≠ 0 by omega)
  have h2 := Int.emod_lt_of_pos n (show 0 < hi - 0 + 1 by omega)
  rw [Int.tmod_eq_emod]
  repeat' split
  all_goals omega
end
end Go.Proofs.Ytgpabbbibmnnlaa
namespace Go.Proofs.Ytgpabbbibmnnlaa
set_option linter.unusedVariables false
set_option linter.unusedSimpArgs false
open Go.Den
noncomputable section
theorem wrsb {e : Env} {H : AH} {size t n : Nat} {cs : List Value} {x : Operand} : slSR e H size (FO t n cs) (some x) none none = slG size n cs (wsc (evl e x)) (some n) := by
  show (match wsc (evl e x), some n with
    | some l, some h => slF2 size (n, cs) e none none l h
    | _, _ => .none) = _
  cases wsc (evl e x) <;> rfl
theorem wssb {e : Env} {H : AH} {size t n : Nat} {cs : List Value} {y : Operand} : slSR e H size (FO t n cs) none (some y) none = slG size n cs (some 0) (wsc (evl e y)) := by
  show (match some 0, wsc (evl e y) with
    | some l, some h => slF2 size (n, cs) e (some y) none l h
    | _, _ => .none) = _
  cases wsc (evl e y) <;> rfl
def slZ : Option Nat → Option Nat → ARes
  | some l, some h => wtn l h
  | _, _ => .none
theorem slS_Za {e : Env} {H : AH} {size : Nat} {a : Addr} {x : Operand} : slSR e H size (.slice (some a) 0 1) (some x) none none = slZ (wsc (evl e x)) (some 0) := by
  show (match wsc (evl e x), some 0 with
    | some l, some h => wov H size a 0 1 l h
    | _, _ => .none) = _
  cases wsc (evl e x) <;> rfl
theorem slS_Zb {e : Env} {H : AH} {size : Nat} {a : Addr} {y : Operand} : slSR e H size (.slice (some a) 0 1) none (some y) none = slZ (some 0) (wsc (evl e y)) := by
  show (match some 0, wsc (evl e y) with
    | some l, some h => wov H size a 0 1 l h
    | _, _ => .none) = _
  cases wsc (evl e y) <;> rfl
theorem slZ_00 : slZ (some 0) (some 0) = wtn 0 0 := rfl
theorem wtsb {to : Int} (a b : List Pc) : wxf to (a ++ b) = wxf to a ++ wxf to b := List.flatMap_append
theorem wyq (a b : List Pc) : wqd (a ++ b) = wqd a + wqd b := by unfold wqd; rw [List.map_append, List.sum_append]
theorem wfk (l : List Pc) (k : Nat) : wqd (l.take k) ≤ wqd l := by
  have := wyq (l.take k) (l.drop k)
  rw [List.take_append_drop] at this; omega
theorem wrn (l : List Pc) (k : Nat) : wqd (l.drop k) ≤ wqd l := by
  have := wyq (l.take k) (l.drop k)
  rw [List.take_append_drop] at this; omega
set_option maxRecDepth 100000 in
set_option maxHeartbeats 16000000 in
theorem wwcb (L : List Pc) (hs : wqd L ≤ 1048576) (hL : L.length ≤ 1048576) (cut to : Int) : lim Try.prog cfg (.call 4 [FL L.length (pcsC L), .int .i64 cut, .int .i64 to]) (HP []) = some (.val (.bool true), HP []) := by
  obtain ⟨c, hc'⟩ : ∃ c : Nat, min (L.length : Int) 15 = (c : Int) := ⟨min L.length 15, by omega⟩
  have hcl : c ≤ L.length := by omega
  have hs0 := wyy hcl
  have hM15 : (L.take c).length ≤ 15 := by rw [List.length_take]; omega
  have hMs : wqd (L.take c) ≤ 1048576 := Nat.le_trans (wfk L c) hs
  have hpl : (pcsC L).length = L.length * 2 := wdl
  have ht := wvq to 0 3 (by omega) (by omega) (by omega)
  generalize wnj to 0 3 = t at *
  have f3 := wwo t [] (by simp) (by simp [wqd])
  have z3 := wxo [] (by simp) (by simp [wqd])
  rw [show ([] : List Pc).length = 0 from rfl, show pcsC [] = [] from rfl, wxq] at f3
  rw [show ([] : List Pc).length = 0 from rfl, show pcsC [] = [] from rfl, wxy, show ((0 : Nat) : Int) = 0 from rfl] at z3
  have p0 := ev_Pack0
  by_cases hM : L.take c = []
  · have hL0 : L = [] := by
      rcases List.take_eq_nil_iff.1 hM with h | h
      · apply List.eq_nil_of_length_eq_zero; omega
      · exact h
    subst hL0
    have hw := wvq cut 0 0 (by omega) (by omega) (by omega)
    have hwi := waz cut 0 (by omega)
    have hw0 : wnj cut 0 0 = 0 := by omega
    rw [hw0] at hw
    clear hs hL hcl hs0 hM15 hMs hwi hw0 hpl hM hc'
    rw [show ([] : List Pc).length = 0 from rfl, show pcsC [] = [] from rfl]
    have hz0 : wtn 0 0 = val (.slice (some ⟨0, 0, none⟩) 0 1) := rfl
    have hm0 : min (0 : Int) 15 = 0 := by omega
    have hz : slG 2 0 [] (some 0) (some 0) = val (FL 0 []) := rfl
    refine wfd hc wae (Nat.le_of_ble_eq_true rfl) (Nat.le_of_ble_eq_true rfl) ?_
    unfold wjd
    (repeat' (first | (simp -implicitDefEqProofs (maxSteps := 2000000) (disch := first | with_reducible assumption | omega | (simp only [zS, zA, seval, wjh, zD] <;> omega) | fail) only [zS, argl, insA, Go.Den.ww, wnb, wcc, looks, wcd, wnc, idOf, riA, seval, Go.Den.wjb, kK, wpeb, wfsb, wmsb, wnsb, wrsb, wssb, slS_Za, slS_Zb, slZ_00, hz0, wqn, wzs, wzy, pcs_nf, Int.toNat_zero, *, zT]) | (with_reducible (first | apply z1 | apply z2 | apply z3 | apply z4) <;> intro hq <;> (try simp only [zH] at hq) <;> (try (exfalso; omega))) | (with_reducible apply z5; (case hl => (repeat (first | exact .nil | with_reducible apply z6 | with_reducible apply z7))); (case h => kernel_rfl))))
  · have hM0 : 0 < (L.take c).length := List.length_pos_iff.2 hM
    generalize L.take c = M at *
    have hw := wvq cut 0 M.length (by omega) (by omega) (by omega)
    have hwi := waz cut M.length (by omega)
    obtain ⟨k, hk⟩ : ∃ k : Nat, wnj cut 0 M.length = k := ⟨_, (Int.toNat_of_nonneg hwi.1).symm⟩
    rw [hk] at hw hwi
    clear hk
    have hkl : k ≤ M.length := by omega
    have hs1 := wyy hkl
    have hs2 := wqsb hkl
    have f0 := wwo t M (by omega) (by omega)
    have f1 := wwo t (M.take k) (by rw [List.length_take]; omega) (by have := wfk M k; omega)
    have f2 := wwo t (M.drop k) (by rw [List.length_drop]; omega) (by have := wrn M k; omega)
    have z0 := wxo M (by omega) (by omega)
    have z1 := wxo (M.take k) (by rw [List.length_take]; omega) (by have := wfk M k; omega)
    have z2 := wxo (M.drop k) (by rw [List.length_drop]; omega) (by have := wrn M k; omega)
    have et : wxf t M = wxf t (M.take k) ++ wxf t (M.drop k) := by rw [← wtsb, List.take_append_drop]
    have ez : (wqd M : Int) = (wqd (M.take k) : Int) + wqd (M.drop k) := by
      have := wyq (M.take k) (M.drop k)
      rw [List.take_append_drop] at this; omega
    have b1 := wfk M k
    have b2 := wrn M k
    have lt1 := wkv (to := t) (M.take k)
    have lt2 := wkv (to := t) (M.drop k)
    rw [et] at f0
    rw [ez] at z0
    have hml : (pcsC M).length = M.length * 2 := wdl
    have kt : (M.take k).length ≤ 15 := by rw [List.length_take]; omega
    have kd : (M.drop k).length ≤ 15 := by rw [List.length_drop]; omega
    generalize wxf t (M.take k) = w1 at *
    generalize wxf t (M.drop k) = w2 at *
    generalize wqd (M.take k) = n1 at *
    generalize wqd (M.drop k) = n2 at *
    generalize M.take k = M1 at *
    generalize M.drop k = M2 at *
    clear hs hM et ez hwi
    refine wfd hc wae (Nat.le_of_ble_eq_true rfl) (Nat.le_of_ble_eq_true rfl) ?_
    unfold wjd
    (repeat' (first | (simp -implicitDefEqProofs (maxSteps := 2000000) (disch := first | with_reducible assumption | omega | (simp only [zS, zA, seval, wjh, zD] <;> omega) | fail) only [zS, argl, insA, Go.Den.ww, wnb, wcc, looks, wcd, wnc, idOf, riA, seval, Go.Den.wjb, kK, wpeb, wfsb, wmsb, wnsb, wrsb, wssb, slS_Za, slS_Zb, slZ_00, wqn, wzs, wzy, pcs_nf, Int.toNat_zero, *, zT]) | (with_reducible (first | apply z1 | apply z2 | apply z3 | apply z4) <;> intro hq <;> (try simp only [zH] at hq) <;> (try (exfalso; omega))) | (with_reducible apply z5; (case hl => (repeat (first | exact .nil | with_reducible apply z6 | with_reducible apply z7))); (case h => kernel_rfl))))
end
end Go.Proofs.Ytgpabbbibmnnlaa
namespace Go.Den
noncomputable section
open Go.ChangeShapes Go.WideShapes Go.RowKit
variable {P : Program} {cfg : Cfg} {H : Type} {enc : TypeId × Value → H}
theorem known_ev (wze : wpf P cfg.glob cfg.know) (hm : P.follows .mixedOrders = true) {f : FuncId} {a : List Value} {v : Value} (h : Ev P cfg (.call f a) AH0 (.val v, AH0)) (ha : wbb a = true) (hv : wbc v = true) : wwk P cfg.glob f a v := by
  obtain ⟨n, h⟩ := h
  exact wco wze hm (h n (Nat.le_refl n)) ha hv
def renW (w : World) : Ren := ⟨fun _ _ => none, fun b i => w.cell? ⟨b, i, none⟩⟩
theorem wusb (wze : wpf P cfg.glob cfg.know) (hm : P.follows .mixedOrders = true) (hg : cfg.glob = fun _ => none) {f : FuncId} {a : List Value} (h : Ev P cfg (.call f a) AH0 (.val (.bool true), AH0)) (ha : wbb a = true) (w : World) (args' : Array Value) (hA : VRL (renW w) a args'.toList) :
    Calls P f args' w fun e w' => e = .returned (.bool true) ∧ w.heap.size ≤ w'.heap.size ∧ (∀ b : Nat, b < w.heap.size → w'.heap[b]? = w.heap[b]?) ∧ w'.os = w.os ∧ w'.output = w.output := by
  refine (known_ev wze hm h ha rfl (renW w) w args' (fun _ _ _ h => h) (by rw [hg]; exact gok_none _) hA).mono ?_
  rintro e w' ⟨ρ', v', rfl, h1, _, _, _, _, h5, h2, h3, h4⟩
  rw [h1.bool_inv]
  exact ⟨rfl, h5, h2, h3, h4⟩
theorem same_at {W W' : World} (hb : ∀ b : Nat, b < W.heap.size → W'.heap[b]? = W.heap[b]?) {p : MemPlace} (hp : p.block < W.heap.size) : W.sameAt W' p := by
  cases p with
  | cell b o => exact World.cell?_of_block (w := W) (hb b hp)
  | map b => exact hb b hp
theorem wlv (hl : laidOutB P = true) {W W' : World} (hb : ∀ b : Nat, b < W.heap.size → W'.heap[b]? = W.heap[b]?) {sp : Nat → Bool} : ∀ (ts : List TypeId) (vs : List Value) (ds : List (DataW H)) (ps : List MemPlace), (ts.all fun t => P.readableRec t && decide (t < P.types.size)) = true →
    DataW.TrodAll enc P W 0 (fun _ => true) true ts vs ds ps → (∀ p ∈ ps, p.block < W.heap.size) → (∀ p ∈ ps, sp p.block = true) → DataW.TrodAll enc P W' 0 sp true ts vs ds ps := by
  intro ts
  induction ts with
  | nil =>
    intro vs ds ps _ h _ _
    obtain ⟨rfl, rfl, rfl⟩ := trodAll_nil h
    exact trodAll_mk0
  | cons t ts ih =>
    intro vs ds ps ht h hlt hs
    obtain ⟨v, vs', d, ds', p, q, rfl, rfl, rfl, h0, h1⟩ := trodAll_cons h
    simp only [List.all_cons, Bool.and_eq_true, decide_eq_true_eq] at ht
    exact trodAll_cons_mk (WideElems.Trod_stays hl ht.1.1 ht.1.2 h0 (fun x hx => same_at hb (hlt x (List.mem_append_left _ hx))) (fun x hx => hs x (List.mem_append_left _ hx)))
      (ih vs' ds' q (by simpa using ht.2) h1 (fun x hx => hlt x (List.mem_append_right _ hx)) (fun x hx => hs x (List.mem_append_right _ hx)))
theorem law_post (hl : laidOutB P = true) {f : Func} {s : ChangeSpec} {apart fresh handsOn : Bool} {W W' : World} {args : Array Value} {ds gs : List (DataW H)} {before : List MemPlace}
    (hW : DataW.Whole enc P f.params.toList s.vars apart W args.toList ds gs before) (hvars : s.vars = []) (hbool : ∃ t, f.resultTypes = #[t] ∧ P.underlying t = some .bool)
    (hts : (f.params.toList.all fun t => P.readableRec t && decide (t < P.types.size)) = true)
    (hfn : s.fn H (ds ++ gs) = { results := [.lit (.bool true)], args := ds })
    (hs : ∀ b : Nat, b < W.heap.size → W'.heap[b]? = W.heap[b]?) (ho : W'.os = W.os) (hp : W'.output = W.output) : s.post enc P f apart fresh handsOn false W args (.bool true) W' := by
  have hW' := hW
  obtain ⟨p, q, hA, hV, rfl, hfz, hnd⟩ := hW
  rw [hvars] at hV
  obtain ⟨rfl, rfl⟩ := trodVars_none hV
  obtain ⟨t, ht, hu⟩ := hbool
  refine wzlb (pa := p) (pv := []) hW' (fun b sp hd => ?_) (fun sp hsp => ?_) (fun sp _ => ?_) rfl (kept_of hs ho hp)
  · rw [ht, hfn]
    exact trodAll_cons_mk (shut_bool hu _) trodAll_mk0
  · rw [hfn]
    exact wlv hl hs _ _ _ _ hts hA (fun x hx => hW'.lt x (List.mem_append_left _ hx)) (fun x hx => hsp x (List.mem_append_left _ hx))
  · rw [hfn, hvars]
    exact rfl
end
end Go.Den
namespace Go.Den
noncomputable section
open Go.ChangeShapes Go.WideShapes Go.RowKit
variable {P : Program} {H : Type} {enc : TypeId × Value → H}
end
end Go.Den
namespace Go.Den
noncomputable section
open Go.ChangeShapes Go.WideShapes Go.RowKit
variable {P : Program} {H : Type} {enc : TypeId × Value → H}
def ntC (p : Int × List UInt8) : List Value := [.int .i64 p.1, .string ⟨⟨p.2⟩⟩]
def ntD (y : DataW H × List MemPlace) : Int × List UInt8 := match y.1 with
  | .agg [.lit (.int _ n), .lit (.string bs)] => (n, bs)
  | _ => (0, [])
def ntW (p : Int × List UInt8) : DataW H := .agg [.lit (.int .i64 p.1), .lit (.string p.2)]
theorem nt_get : ∀ (L : List (Int × List UInt8)) (i : Nat) (v : Value), (L.flatMap ntC)[i]? = some v → i / 2 < L.length ∧ v = if i % 2 = 0 then .int .i64 (L.getD (i / 2) (0, [])).1 else .string ⟨⟨(L.getD (i / 2) (0, [])).2⟩⟩ := by
  intro L
  induction L with
  | nil => intro i v h; simp at h
  | cons p L ih =>
    intro i v h
    rw [List.flatMap_cons] at h
    match i, h with
    | 0, h => cases h; exact ⟨by simp, rfl⟩
    | 1, h => cases h; exact ⟨by simp, rfl⟩
    | i + 2, h =>
      obtain ⟨h1, h2⟩ := ih i v h
      rw [show (i + 2) / 2 = i / 2 + 1 by omega, show (i + 2) % 2 = i % 2 by omega]
      exact ⟨by simp; exact h1, h2⟩
theorem row_VR2 {W : World} {t e : TypeId} {f0 f1 : Field} (ht : P.underlying t = some (.slice e)) (he : P.underlying e = some (.struct #[f0, f1])) (o0 : f0.offset = 0) (o1 : f1.offset = 1) (hsz : P.cellsOf e = 2) (c0 : P.cellsOf f0.type = 1) (c1 : P.cellsOf f1.type = 1) (u0 : P.underlying f0.type = some (.int .i64)) (u1 : P.underlying f1.type = some .string)
    {r : Reach} {b0 base fuel : Nat} {sp : Nat → Bool} {held : Bool} {v : Value} {x : DataW H × List MemPlace}
    (hval : Cell.okWide P W r b0 t v) (hf : DataW.trod enc P W base sp held fuel t [v] = some x) :
    ∃ L : List (Int × List UInt8), VR (renW W) (FL L.length (L.flatMap ntC)) v ∧ ((x.1 = .nil ∧ L = []) ∨ ∃ rest, x.1 = .slice (L.map ntW) rest) := by
  rcases DataW.trod_slice ht hf with ⟨hcs, hx⟩ | ⟨a, len, cap, elems, rest, n, _, hcs, hx, hb, hl, hm, hlen, hel, _, _⟩
  · cases hcs
    subst hx
    exact ⟨[], .listNo, .inl ⟨rfl, rfl⟩⟩
  · cases hcs
    subst hx
    have hsp : a.spot = none := by
      simp only [Cell.okWide, ht, Cell.ok] at hval
      exact hval.2.2.2.1
    obtain ⟨blk, off, spot⟩ := a
    subst hsp
    have hadd : ∀ b i, (⟨blk, b, none⟩ : Addr).add i = ⟨blk, b + i, none⟩ := fun b i => by unfold Addr.add; split <;> simp_all
    have each : ∀ i (hi : i < len), elems[i]'(by omega) = (ntW (ntD (elems[i]'(by omega))), []) ∧ W.cell? ⟨blk, off + i * 2, none⟩ = some (.int .i64 (ntD (elems[i]'(by omega))).1) ∧ W.cell? ⟨blk, off + i * 2 + 1, none⟩ = some (.string ⟨⟨(ntD (elems[i]'(by omega))).2⟩⟩) := by
      intro i hi
      have h1 := hel i hi
      rw [List.getElem?_eq_getElem (show i < elems.length by omega), hsz, Option.bind_eq_some_iff] at h1
      generalize elems[i]'(by omega) = y at h1 ⊢
      obtain ⟨cs', hc', hy⟩ := h1
      obtain ⟨y0, y1, m, rfl, hcl, g0, g1⟩ := trod_struct2 he hy
      rw [o0, c0] at g0
      rw [o1, c1] at g1
      obtain ⟨z, e0, rfl, _⟩ := DataW.trod_int u0 g0
      obtain ⟨s, e1, rfl, _⟩ := DataW.trod_string u1 g1
      rw [hsz] at hcl
      have hcells := (World.cells?_some hc').2.2
      match cs', hcl, e0, e1 with
      | [c0, c1], _, e0, e1 =>
        have e0 : [c0] = [Value.int .i64 z] := e0
        have e1 : [c1] = [Value.string s] := e1
        cases e0
        cases e1
        have k0 := hcells 0 (by omega)
        have k1 := hcells 1 (by omega)
        rw [hadd, hadd] at k0
        rw [hadd, hadd] at k1
        exact ⟨rfl, k0, k1⟩
    refine ⟨elems.map ntD, ?_, .inr ⟨rest.map (·.1), ?_⟩⟩
    · rw [List.length_map, hlen]
      refine VR.list (a' := ⟨blk, off, none⟩) hl (fun i => if i % 2 = 0 then .int .i64 ((elems.map ntD).getD (i / 2) (0, [])).1 else .string ⟨⟨((elems.map ntD).getD (i / 2) (0, [])).2⟩⟩) (fun i hi => ?_) (fun i v hv => ?_)
      · have hi2 : i / 2 < len := by
          have hfl : ((elems.map ntD).flatMap ntC).length = (elems.map ntD).length * 2 := wom (enc := ntC) (k := 2) (fun _ => rfl) _
          rw [hfl, List.length_map, hlen] at hi
          omega
        have hg : (elems.map ntD).getD (i / 2) (0, []) = ntD (elems[i / 2]'(by omega)) := by
          rw [List.getD_eq_getElem?_getD, List.getElem?_map, List.getElem?_eq_getElem (show i / 2 < elems.length by omega)]; rfl
        obtain ⟨_, q0, q1⟩ := each (i / 2) hi2
        rw [hg]
        by_cases hp : i % 2 = 0
        · rw [if_pos hp]
          have : i / 2 * 2 = i := by omega
          rw [this] at q0
          exact q0
        · rw [if_neg hp]
          have : off + i / 2 * 2 + 1 = off + i := by omega
          rw [this] at q1
          exact q1
      · obtain ⟨_, rfl⟩ := nt_get _ _ _ hv
        show VR (renW W).noloc _ (if i % 2 = 0 then _ else _)
        split <;> exact .flat rfl
    · show DataW.slice (elems.map (·.1)) (rest.map (·.1)) = _
      congr 1
      rw [List.map_map]
      apply List.ext_getElem (by rw [List.length_map, List.length_map])
      intro i h1 h2
      rw [List.getElem_map, List.getElem_map]
      rw [List.length_map] at h1
      exact congrArg Prod.fst (each i (by omega)).1
theorem wvsb {W : World} {t e : TypeId} {f0 f1 : Field} (ht : P.underlying t = some (.slice e)) (he : P.underlying e = some (.struct #[f0, f1])) (o0 : f0.offset = 0) (o1 : f1.offset = 1) (hsz : P.cellsOf e = 2) (c0 : P.cellsOf f0.type = 1) (c1 : P.cellsOf f1.type = 1) (u0 : P.underlying f0.type = some (.int .i64)) (u1 : P.underlying f1.type = some .string)
    {r : Reach} {b0 base : Nat} {sp : Nat → Bool} {held : Bool} {v : Value} {d : DataW H} {ps : List MemPlace}
    (hval : Value.okWide P W r b0 t v) (hd : DataW.Trod enc P W base sp held t v d ps) :
    ∃ L : List (Int × List UInt8), VR (renW W) (FL L.length (L.flatMap ntC)) v ∧ ((d = .nil ∧ L = []) ∨ ∃ rest, d = .slice (L.map ntW) rest) := by
  obtain ⟨a, len, cap, rfl⟩ := okWide_slice ht hval
  obtain ⟨fuel, hf⟩ := hd
  simp only [Value.okWide, ht] at hval
  exact row_VR2 ht he o0 o1 hsz c0 c1 u0 u1 hval hf
end
end Go.Den
