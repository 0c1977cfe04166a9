/-
  PARTS OF A PROOF, joined by a program (6 of 6): a proved reckoner of the model, and what the functions come to.
-/
import Derived.Test.YtdbhfmdndiphcaaQTplFill5
import Derived.ChangeSame
import Derived.WideKeyArgs
import Derived.OpenShut
import Derived.WideKeyPair
import Derived.ChangeSlices
set_option linter.unusedVariables false
set_option linter.unusedSimpArgs false
namespace Go.Proofs.Ytdbhfmdndiphcaa
open Go.Den
noncomputable section
def live13 (i : Nat) : Option (List Tmp × List Tmp × Nat) := bif Nat.beq i 5 then some ([2, 3, 9, 10, 11, 26], [3, 9, 10, 11], 999999) else bif Nat.beq i 15 then some ([9, 10, 11, 14, 15, 69, 70, 71], [9, 10, 11, 14, 15], 999999) else bif Nat.beq i 23 then some ([9, 10, 11, 14, 15, 18, 90, 91, 92], [9, 10, 11, 14, 15, 18], 999999) else none
def live26 (i : Nat) : Option (List Tmp × List Tmp × Nat) := bif Nat.beq i 3 then some ([0, 1, 5, 6], [5], 999999) else none
def live44 (i : Nat) : Option (List Tmp × List Tmp × Nat) := bif Nat.beq i 3 then some ([1, 2, 5, 6], [5], 999999) else none
def live45 (i : Nat) : Option (List Tmp × List Tmp × Nat) := bif Nat.beq i 3 then some ([2, 4, 7, 10, 11, 12], [7], 999999) else none
def live46 (i : Nat) : Option (List Tmp × List Tmp × Nat) := bif Nat.beq i 2 then some ([0, 1, 7, 8, 9], [4], 999999) else none
def liveT (f i : Nat) : Option (List Tmp × List Tmp × Nat) := bif Nat.blt f 44 then (bif Nat.blt f 26 then (bif Nat.beq f 13 then live13 i else none) else (bif Nat.beq f 26 then live26 i else none)) else (bif Nat.blt f 45 then (bif Nat.beq f 44 then live44 i else none) else (bif Nat.blt f 46 then (bif Nat.beq f 45 then live45 i else none) else (bif Nat.beq f 46 then live46 i else none)))
def tabK : List (FuncId × List Value × Value) := [(43, [], .bool true)]
def cfg : Cfg := { raw := fun f => (false, false), own := fun f => true, live := liveT, glob := fun _ => none, know := wybb tabK wyeb }
theorem hc : PlainA cfg := ⟨fun _ => rfl⟩
theorem wsf : wjf Try.prog cfg.glob cfg.know := wshb (fun e he => by
  simp only [tabK, List.mem_cons, List.not_mem_nil, or_false] at he
  subst he; exact wiw) wtr
theorem wltb {rec : Rec} {f : FuncId} {args : List Value} {H : AH} : callS Try.prog cfg rec f args H = wxx rec f H (wle Try.prog H 20 args) (cfg.know f) := rfl
def G0 : (Nat → Option (List Value)) × Bool := (fun _ => none, true)
theorem g0_K : G0.2 = true := rfl
theorem g_K {f : FuncId} : (cfg.glob, cfg.own f) = G0 := rfl
theorem kn_K : cfg.know 15 = none ∧ cfg.know 26 = none ∧ cfg.know 31 = none ∧ cfg.know 44 = none ∧ cfg.know 45 = none ∧ cfg.know 46 = none ∧ cfg.know 52 = none ∧ cfg.know 53 = none ∧ cfg.know 71 = none := ⟨rfl, rfl, rfl, rfl, rfl, rfl, rfl, rfl, rfl⟩
theorem kw_K : ∀ (rec : Rec) (H : AH) (fr : Frs), wxx rec 43 H (some ([], fr)) (cfg.know 43) = .did (.bool true) none true (raise H fr) (wqj fr) := fun _ _ _ => by kernel_rfl
theorem tsz_K : tsz Try.prog 5 = 1 ∧ tsz Try.prog 9 = 1 ∧ tsz Try.prog 79 = 2 := ⟨by kernel_rfl, by kernel_rfl, by kernel_rfl⟩
theorem raw_K : (cfg.raw 13).2 = false ∧ (cfg.raw 15).2 = false ∧ (cfg.raw 26).2 = false ∧ (cfg.raw 31).2 = false ∧ (cfg.raw 44).2 = false ∧ (cfg.raw 45).2 = false ∧ (cfg.raw 46).2 = false ∧ (cfg.raw 52).2 = false ∧ (cfg.raw 53).2 = false ∧ (cfg.raw 71).2 = false := ⟨rfl, rfl, rfl, rfl, rfl, rfl, rfl, rfl, rfl, rfl⟩
theorem kK : type_of% @raw_K ∧ (type_of% @wltb ∧ type_of% @g_K) ∧ (type_of% @g0_K ∧ type_of% @tsz_K) ∧ (type_of% @kn_K ∧ type_of% @kw_K) := ⟨@raw_K, ⟨@wltb, @g_K⟩, ⟨@g0_K, @tsz_K⟩, ⟨@kn_K, @kw_K⟩⟩
theorem wbc : cfg.live 13 (wad (wfb 0)) = some ([2, 3, 9, 10, 11, 26], [3, 9, 10, 11], 999999) := by kernel_rfl
theorem wrc : cfg.live 13 (wad (wfb 1)) = some ([9, 10, 11, 14, 15, 69, 70, 71], [9, 10, 11, 14, 15], 999999) := by kernel_rfl
theorem wsc : cfg.live 13 (wad (wfb 2)) = some ([9, 10, 11, 14, 15, 18, 90, 91, 92], [9, 10, 11, 14, 15, 18], 999999) := by kernel_rfl
theorem wbe : cfg.live 26 (wad (wqe 0)) = some ([0, 1, 5, 6], [5], 999999) := by kernel_rfl
theorem wjb : cfg.live 44 (wad (wic 0)) = some ([1, 2, 5, 6], [5], 999999) := by kernel_rfl
theorem wtf : cfg.live 45 (wad (wmh 0)) = some ([2, 4, 7, 10, 11, 12], [7], 999999) := by kernel_rfl
theorem wkb : cfg.live 46 (wad (wai 0)) = some ([0, 1, 7, 8, 9], [4], 999999) := by kernel_rfl
end
end Go.Proofs.Ytdbhfmdndiphcaa
namespace Go.Proofs.Ytdbhfmdndiphcaa
set_option linter.unusedVariables false
set_option linter.unusedSimpArgs false
open Go.Den
noncomputable section
def wtd (n lo hi : Int) : Int := if n.tmod (hi - lo + 1) < 0 then lo + (n.tmod (hi - lo + 1) + hi - lo + 1) else lo + n.tmod (hi - lo + 1)
theorem wuf (n lo hi : Int) (h1 : -1000000 ≤ lo) (h2 : lo ≤ hi) (h3 : hi ≤ 1000000) : lim Try.prog cfg (.call 15 [.int .i64 n, .int .i64 lo, .int .i64 hi]) (HP []) = some (.val (.int .i64 (wtd n lo hi)), HP []) := by
  refine wcd hc wuj (Nat.le_of_ble_eq_true rfl) (Nat.le_of_ble_eq_true rfl) ?_
  unfold wlh wtd
  have hb : -(hi - lo + 1) < n.tmod (hi - lo + 1) ∧ n.tmod (hi - lo + 1) < hi - lo + 1 := by
    have := Int.emod_nonneg n (show hi - lo + 1 ≠ 0 by omega)
    have h5 := Int.emod_lt_of_pos n (show 0 < hi - lo + 1 by omega)
    rw [Int.tmod_eq_emod]
    split <;> omega
  (repeat' (first | (simp -implicitDefEqProofs (maxSteps := 2000000) (disch := first | with_reducible assumption | omega | (simp only [zS, zA, seval] <;> omega) | fail) only [zS, argl, insA, Go.Den.wh, wz, wmb, looks, wec, wac, idOf, riA, seval, Go.Den.wo, kK, *]) | (with_reducible (first | apply z1 | apply z2 | apply z3 | apply z4) <;> intro hq <;> (try simp only [zH] at hq) <;> (try (exfalso; omega)))))
def mtNone : Mt := ⟨[-1, -1, -1, -1, -1, -1, -1, -1], rfl⟩
def wgp (m : Mt) (s : List UInt8) (n : Int) : List UInt8 :=
  if n < 0 then [] else if 4 ≤ n then [] else if m.at (n.toNat * 2) < 0 then [] else if m.at (n.toNat * 2) > m.at (n.toNat * 2 + 1) then [] else if m.at (n.toNat * 2 + 1) > s.length then []
  else (s.take (m.at (n.toNat * 2 + 1)).toNat).drop (m.at (n.toNat * 2)).toNat
theorem wjw (m : Mt) (s : List UInt8) (n : Int) : lim Try.prog cfg (.call 31 [.agg ⟨mtC m⟩, str s, .int .i64 n]) (HP []) = some (.val (str (wgp m s n)), HP []) := by
  refine wcd hc wlp (Nat.le_of_ble_eq_true rfl) (Nat.le_of_ble_eq_true rfl) ?_
  unfold wsn wgp
  (repeat' (first | (simp -implicitDefEqProofs (maxSteps := 2000000) (disch := first | with_reducible assumption | omega | (simp only [zS, zA, seval, zD] <;> omega) | fail) only [zS, argl, insA, Go.Den.wh, wz, wmb, looks, wec, wac, idOf, riA, seval, Go.Den.wo, kK, *, zT]) | (with_reducible (first | apply z1 | apply z2 | apply z3 | apply z4) <;> intro hq <;> (try simp only [zH] at hq) <;> (try (exfalso; omega))) | (with_reducible apply z5; (case hl => (repeat (first | exact .nil | with_reducible apply z6 | with_reducible apply z7))); (case h => kernel_rfl))))
end
end Go.Proofs.Ytdbhfmdndiphcaa
namespace Go.Den
noncomputable section
variable {P : Program}
end
end Go.Den
namespace Go.Den
noncomputable section
theorem wmtb {h : List ABlk} (hh : h.length ≤ 1099511627774) {elem size bytes n : Nat} {new : List Value} (hn : n ≤ 16777216) (hb : bytes ≤ 1048576) (ha : wgd (nfL new) = true) :
    appN h elem size bytes (.slice none 0 0) n new = .eff (FO h.length n (nfL new)) (HP (h ++ [.tok n elem size])) := by
  show (bif roomy n bytes then wze true (HP h) elem size new n else .none) = _
  have h1 : roomy n bytes = true := by unfold roomy; rw [nble, nble, decide_eq_true hn, decide_eq_true hb]; rfl
  rw [h1, cond_true]
  show (bif wfs (HP h) (nfL new) then ARes.eff (FO (HP h).n n (nfL new)) ((HP h).push (.tok n elem size)) else .none) = _
  have h2 : wfs (HP h) (nfL new) = true := by
    unfold wfs
    rw [wzh ha, wqn ha, HP_n, wpf hh]; rfl
  rw [h2, cond_true, HP_n, wkh]
end
end Go.Den
namespace Go.Den
noncomputable section
variable {P : Program}
def ptrX (i : Nat) : Option CBlk → ARes
  | some _ => val (.pointer (some ⟨i, 0, none⟩))
  | none => .none
theorem wvf {i : Nat} {b : CBlk} : ptrX i (some b) = val (.pointer (some ⟨i, 0, none⟩)) := rfl
theorem wvn {v : Value} {cs : List Value} {t z : Nat} {pf : Bool} : rdX 0 1 (some (X (v :: cs) t z pf)) = some { cells := v :: cs, elem := t, esz := 1, lens := [], wver := 0, frz := z, mark := false, pf := pf } := rdX_X (by simp)
theorem wkj {h : List ABlk} (hh : h.length ≤ 1099511627774) {i : Nat} : wjnb (HP h) (.pointer (some ⟨i, 0, none⟩)) = ptrX i (rdX 0 1 h[i]?) := by
  show (match woe (HP h) ⟨i, 0, none⟩ 1 with | some _ => val (.pointer (some ⟨i, 0, none⟩)) | none => .none) = _
  rw [won hh]
  cases rdX 0 1 h[i]? <;> rfl
def frpX (P : Program) (u : TypeId) (i : Nat) : Option CBlk → ARes
  | some b => bif rowOk P b 0 u then val (.pointer (some ⟨i, 0, none⟩)) else .none
  | none => .none
theorem wwf {u : TypeId} {i : Nat} {cs : List Value} {t z : Nat} {pf : Bool} : frpX P u i (some { cells := cs, elem := t, esz := 1, lens := [], wver := 0, frz := z, mark := false, pf := pf }) = bif liesAt P P.depth t (cs.length / P.cellsOf t) 0 u 1 then val (.pointer (some ⟨i, 0, none⟩)) else .none := rfl
theorem wlj {h : List ABlk} (hh : h.length ≤ 1099511627774) {i : Nat} {u : TypeId} : wknb P (HP h) u (.pointer (some ⟨i, 0, none⟩)) = frpX P u i (rdX 0 1 h[i]?) := by
  show (match woe (HP h) ⟨i, 0, none⟩ 1 with | some b => bif rowOk P b 0 u then val (.pointer (some ⟨i, 0, none⟩)) else .none | none => .none) = _
  rw [won hh]
  cases rdX 0 1 h[i]? <;> rfl
theorem wwn {neg : Bool} {t : TypeId} : refA neg (.pointer t) (.pointer none) (.pointer none) = val (.bool (!neg)) := rfl
theorem wxn {neg : Bool} {t : TypeId} {a : Addr} : refA neg (.pointer t) (.pointer (some a)) (.pointer none) = val (.bool neg) := rfl
theorem wyn {neg : Bool} {t : TypeId} {i : Nat} : refA neg (.pointer t) (.pointer (some ⟨i, 0, none⟩)) (.pointer (some ⟨i, 0, none⟩)) = val (.bool (!neg)) := by
  show (bif (Nat.beq i i && (Nat.beq 0 0 && Nat.beq 0 0)) then val (.bool (!neg)) else .none) = _
  rw [Nat.beq_refl]; rfl
theorem wce {l : List UInt8} : (u8s l).length = l.length := List.length_map ..
theorem u8s_app {l m : List UInt8} : u8s l ++ u8s m = u8s (l ++ m) := by unfold u8s; rw [List.map_append]
theorem wjg (l : List UInt8) : wgd (u8s l) = true := by
  induction l with
  | nil => rfl
  | cons a l ih => show (wfm (.int .u8 a.toNat) && wgd (u8s l)) = true; rw [ih]; rfl
theorem wbi (l : List UInt8) : FzL (u8s l) := fzl (wjg l)
theorem u8s_all (l : List UInt8) : (u8s l).all isU8 = true := by
  rw [List.all_eq_true]
  intro v hv
  obtain ⟨b, _, rfl⟩ := List.mem_map.1 hv
  show Nat.ble b.toNat 255 = true
  have := b.toNat_lt
  rw [Nat.ble_eq]; omega
theorem u8s_back (l : List UInt8) : (u8s l).map toU8 = l := by
  unfold u8s
  rw [List.map_map]
  conv => rhs; rw [← List.map_id l]
  apply List.map_congr_left
  intro b _
  show UInt8.ofNat b.toNat = b
  simp
theorem wmj {h : List ABlk} {elem bytes : Nat} {s : Value} {l : List UInt8} (hl : l ≠ []) : appA true (HP h) elem 1 bytes s (.string ⟨⟨l⟩⟩) = appN h elem 1 bytes s l.length (u8s l) := by
  unfold appA
  have h1 : lenA (.string ⟨⟨l⟩⟩) = some l.length := rfl
  have hl : 0 < l.length := List.length_pos_iff.2 hl
  obtain ⟨n, hn⟩ : ∃ n, l.length = n + 1 := ⟨l.length - 1, by omega⟩
  have h2 : wzf (HP h) 1 (n + 1) (.string ⟨⟨l⟩⟩) = some (u8s l) := by
    show (bif Nat.beq 1 1 && Nat.ble (n + 1) l.length then some (u8s (l.take (n + 1))) else none) = _
    rw [← hn, nble, decide_eq_true (Nat.le_refl _), List.take_length]; rfl
  rw [h1, hn]
  simp only [h2]
  rfl
theorem wxf {h : List ABlk} {elem bytes : Nat} : appA true (HP h) elem 1 bytes (.slice none 0 0) (.string ⟨⟨[]⟩⟩) = .eff (.slice none 0 0) (HP h) := rfl
theorem wzg {h : List ABlk} {elem bytes t n : Nat} {cs : List Value} : appA true (HP h) elem 1 bytes (FO t n cs) (.string ⟨⟨[]⟩⟩) = .eff (FO t n cs) (HP h) := rfl
theorem wnj {h : List ABlk} : usdA (HP h) (.slice none 0 0) = val (.pointer none) := rfl
theorem wzn {h : List ABlk} {t n : Nat} {cs : List Value} (hn : 0 < n) : usdA (HP h) (FO t n cs) = val (OP t n cs) := by
  show (bif Nat.blt 0 n then val (OP t n cs) else .none) = _
  rw [nblt, decide_eq_true hn]; rfl
theorem wah {h : List ABlk} {u : TypeId} : wou P (HP h) u (.pointer none) (some 0) = val (.string ⟨#[]⟩) := rfl
def ustX (P : Program) (h : List ABlk) (u : TypeId) (n m : Nat) (cs : List Value) : Option ABlk → ARes
  | some (.tok k elem esz) => bif Nat.beq k m && (Nat.beq esz 1 && (Nat.ble n m && (wei P elem u && (Nat.ble n 9223372036854775807 && (cs.take n).all isU8)))) then .eff (.string ⟨((cs.take n).map toU8).toArray⟩) (HP h) else .none
  | _ => .none
theorem woj {h : List ABlk} (hh : h.length ≤ 1099511627774) {u : TypeId} {t n m : Nat} {cs : List Value} (hn : 0 < n) : wou P (HP h) u (OP t m cs) (some n) = ustX P h u n m cs h[t]? := by
  obtain ⟨k, rfl⟩ : ∃ k, n = k + 1 := ⟨n - 1, by omega⟩
  show wcgb P (HP h) u (k + 1) m cs ((HP h).get t) = _
  rw [wof h hh]
  cases h[t]? with
  | none => rfl
  | some b => cases b <;> rfl
theorem wbh {h : List ABlk} {u elem : TypeId} {l : List UInt8} (hb : wei P elem u = true) (hl : l.length ≤ 9223372036854775807) : ustX P h u l.length l.length (u8s l) (some (.tok l.length elem 1)) = .eff (.string ⟨⟨l⟩⟩) (HP h) := by
  show (bif Nat.beq l.length l.length && (Nat.beq 1 1 && (Nat.ble l.length l.length && (wei P elem u && (Nat.ble l.length 9223372036854775807 && ((u8s l).take l.length).all isU8)))) then _ else _) = _
  have ht : (u8s l).take l.length = u8s l := by rw [← wce, List.take_length]
  rw [ht, u8s_all, u8s_back, hb, nble, nble, decide_eq_true (Nat.le_refl _), decide_eq_true hl, Nat.beq_refl]
  rfl
end
end Go.Den
namespace Go.Proofs.Ytdbhfmdndiphcaa
set_option linter.unusedVariables false
set_option linter.unusedSimpArgs false
open Go.Den
noncomputable section
theorem sb_lies : liesAt Try.prog Try.prog.depth 98 (2 / Try.prog.cellsOf 98) 0 98 1 = true := by kernel_rfl
theorem sb_bytes : wei Try.prog 5 5 = true := by kernel_rfl
abbrev sbP : Value := .pointer (some ⟨0, 0, none⟩)
abbrev SB : Nat := 98
abbrev BY : Nat := 5
def sbA (a : Bool) : Value := if a = true then sbP else .pointer none
theorem wokb : sbA true = sbP := rfl
theorem wpkb : sbA false = .pointer none := rfl
def sbH (a : Bool) (l : List UInt8) : List ABlk := if l = [] then [X [sbA a, .slice none 0 0] SB 0 false] else [X [sbP, FO 1 l.length (u8s l)] SB 0 false, .tok l.length BY 1]
theorem sbH_0 {a : Bool} : sbH a [] = [X [sbA a, .slice none 0 0] SB 0 false] := rfl
theorem sbH_1 {a : Bool} {l : List UInt8} (h : l ≠ []) : sbH a l = [X [sbP, FO 1 l.length (u8s l)] SB 0 false, .tok l.length BY 1] := by unfold sbH; rw [if_neg h]
theorem check_no : lim Try.prog cfg (.call 71 [sbP]) (HP [X [.pointer none, .slice none 0 0] SB 0 false]) = some (.val (.tuple ⟨[]⟩), HP [X [sbP, .slice none 0 0] SB 0 false]) := by
  refine wcd hc wvc (Nat.le_of_ble_eq_true rfl) (Nat.le_of_ble_eq_true rfl) ?_
  unfold wmc
  have h := sb_lies
  (repeat' (first | (simp -implicitDefEqProofs (maxSteps := 2000000) (disch := first | with_reducible assumption | omega | (simp only [zS, zA, seval, wjg, wce, wbi] <;> omega) | fail) only [zS, argl, insA, Go.Den.wh, wz, wmb, looks, wec, wac, idOf, riA, seval, Go.Den.wo, kK, wwn, wxn, wyn, wkj, wlj, wvn, wvf, wwf, wmj, wxf, wzg, wce, wnj, wzn, wah, woj, wbh, *]) | (with_reducible (first | apply z1 | apply z2 | apply z3 | apply z4) <;> intro hq <;> (try simp only [zH] at hq) <;> (try (exfalso; omega)))))
  all_goals rfl
theorem wntb : lim Try.prog cfg (.call 71 [sbP]) (HP [X [sbP, .slice none 0 0] SB 0 false]) = some (.val (.tuple ⟨[]⟩), HP [X [sbP, .slice none 0 0] SB 0 false]) := by
  refine wcd hc wvc (Nat.le_of_ble_eq_true rfl) (Nat.le_of_ble_eq_true rfl) ?_
  unfold wmc
  (repeat' (first | (simp -implicitDefEqProofs (maxSteps := 2000000) (disch := first | with_reducible assumption | omega | (simp only [zS, zA, seval, wjg, wce, wbi] <;> omega) | fail) only [zS, argl, insA, Go.Den.wh, wz, wmb, looks, wec, wac, idOf, riA, seval, Go.Den.wo, kK, wwn, wxn, wyn, wkj, wlj, wvn, wvf, wwf, wmj, wxf, wzg, wce, wnj, wzn, wah, woj, wbh, *]) | (with_reducible (first | apply z1 | apply z2 | apply z3 | apply z4) <;> intro hq <;> (try simp only [zH] at hq) <;> (try (exfalso; omega)))))
  all_goals rfl
theorem wqfb (n : Nat) (cs : List Value) : lim Try.prog cfg (.call 71 [sbP]) (HP [X [sbP, FO 1 n cs] SB 0 false, .tok n BY 1]) = some (.val (.tuple ⟨[]⟩), HP [X [sbP, FO 1 n cs] SB 0 false, .tok n BY 1]) := by
  refine wcd hc wvc (Nat.le_of_ble_eq_true rfl) (Nat.le_of_ble_eq_true rfl) ?_
  unfold wmc
  (repeat' (first | (simp -implicitDefEqProofs (maxSteps := 2000000) (disch := first | with_reducible assumption | omega | (simp only [zS, zA, seval, wjg, wce, wbi] <;> omega) | fail) only [zS, argl, insA, Go.Den.wh, wz, wmb, looks, wec, wac, idOf, riA, seval, Go.Den.wo, kK, wwn, wxn, wyn, wkj, wlj, wvn, wvf, wwf, wmj, wxf, wzg, wce, wnj, wzn, wah, woj, wbh, *]) | (with_reducible (first | apply z1 | apply z2 | apply z3 | apply z4) <;> intro hq <;> (try simp only [zH] at hq) <;> (try (exfalso; omega)))))
  all_goals rfl
theorem wtz (a : Bool) : lim Try.prog cfg (.call 71 [sbP]) (HP [X [sbA a, .slice none 0 0] SB 0 false]) = some (.val (.tuple ⟨[]⟩), HP [X [sbP, .slice none 0 0] SB 0 false]) := by
  cases a with
  | true => exact wntb
  | false => exact check_no
theorem write_00 (a : Bool) : lim Try.prog cfg (.call 52 [sbP, str []]) (HP [X [sbA a, .slice none 0 0] SB 0 false]) = some (.val (.tuple ⟨[.int .i64 0, .nilIface]⟩), HP [X [sbP, .slice none 0 0] SB 0 false]) := by
  have h := wtz a
  refine wcd hc wdc (Nat.le_of_ble_eq_true rfl) (Nat.le_of_ble_eq_true rfl) ?_
  unfold wzb
  cases a <;> simp only [wokb, wpkb] at h ⊢
  all_goals (repeat' (first | (simp -implicitDefEqProofs (maxSteps := 2000000) (disch := first | with_reducible assumption | omega | (simp only [zS, zA, seval, wjg, wce, wbi] <;> omega) | fail) only [zS, argl, insA, Go.Den.wh, wz, wmb, looks, wec, wac, idOf, riA, seval, Go.Den.wo, kK, wwn, wxn, wyn, wkj, wlj, wvn, wvf, wwf, wmj, wxf, wzg, wce, wnj, wzn, wah, woj, wbh, *]) | (with_reducible (first | apply z1 | apply z2 | apply z3 | apply z4) <;> intro hq <;> (try simp only [zH] at hq) <;> (try (exfalso; omega)))))
  all_goals rfl
theorem write_01 (a : Bool) (s : List UInt8) (hs : s.length ≤ 1000000) (h0 : s ≠ []) : lim Try.prog cfg (.call 52 [sbP, str s]) (HP [X [sbA a, .slice none 0 0] SB 0 false]) = some (.val (.tuple ⟨[.int .i64 s.length, .nilIface]⟩), HP [X [sbP, FO 1 s.length (u8s s)] SB 0 false, .tok s.length BY 1]) := by
  have h := wtz a
  refine wcd hc wdc (Nat.le_of_ble_eq_true rfl) (Nat.le_of_ble_eq_true rfl) ?_
  unfold wzb
  cases a <;> simp only [wokb, wpkb] at h ⊢
  all_goals (repeat' (first | (simp -implicitDefEqProofs (maxSteps := 2000000) (disch := first | with_reducible assumption | omega | (simp only [zS, zA, seval, wjg, wce, wbi] <;> omega) | fail) only [zS, argl, insA, Go.Den.wh, wz, wmb, looks, wec, wac, idOf, riA, seval, Go.Den.wo, kK, wwn, wxn, wyn, wkj, wlj, wvn, wvf, wwf, wmj, wxf, wzg, wce, wnj, wzn, wah, woj, wbh, *]) | (with_reducible (first | apply z1 | apply z2 | apply z3 | apply z4) <;> intro hq <;> (try simp only [zH] at hq) <;> (try (exfalso; omega)))))
  all_goals rfl
theorem write_10 (l : List UInt8) : lim Try.prog cfg (.call 52 [sbP, str []]) (HP [X [sbP, FO 1 l.length (u8s l)] SB 0 false, .tok l.length BY 1]) = some (.val (.tuple ⟨[.int .i64 0, .nilIface]⟩), HP [X [sbP, FO 1 l.length (u8s l)] SB 0 false, .tok l.length BY 1]) := by
  have h := wqfb l.length (u8s l)
  refine wcd hc wdc (Nat.le_of_ble_eq_true rfl) (Nat.le_of_ble_eq_true rfl) ?_
  unfold wzb
  (repeat' (first | (simp -implicitDefEqProofs (maxSteps := 2000000) (disch := first | with_reducible assumption | omega | (simp only [zS, zA, seval, wjg, wce, wbi] <;> omega) | fail) only [zS, argl, insA, Go.Den.wh, wz, wmb, looks, wec, wac, idOf, riA, seval, Go.Den.wo, kK, wwn, wxn, wyn, wkj, wlj, wvn, wvf, wwf, wmj, wxf, wzg, wce, wnj, wzn, wah, woj, wbh, *]) | (with_reducible (first | apply z1 | apply z2 | apply z3 | apply z4) <;> intro hq <;> (try simp only [zH] at hq) <;> (try (exfalso; omega)))))
  all_goals rfl
theorem write_11 (l s : List UInt8) (hs : l.length + s.length ≤ 1000000) (h0 : s ≠ []) : lim Try.prog cfg (.call 52 [sbP, str s]) (HP [X [sbP, FO 1 l.length (u8s l)] SB 0 false, .tok l.length BY 1]) = some (.val (.tuple ⟨[.int .i64 s.length, .nilIface]⟩), HP [X [sbP, FO 1 (l ++ s).length (u8s (l ++ s))] SB 0 false, .tok (l ++ s).length BY 1]) := by
  have h := wqfb l.length (u8s l)
  rw [← u8s_app, List.length_append]
  refine wcd hc wdc (Nat.le_of_ble_eq_true rfl) (Nat.le_of_ble_eq_true rfl) ?_
  unfold wzb
  (repeat' (first | (simp -implicitDefEqProofs (maxSteps := 2000000) (disch := first | with_reducible assumption | omega | (simp only [zS, zA, seval, wjg, wce, wbi] <;> omega) | fail) only [zS, argl, insA, Go.Den.wh, wz, wmb, looks, wec, wac, idOf, riA, seval, Go.Den.wo, kK, wwn, wxn, wyn, wkj, wlj, wvn, wvf, wwf, wmj, wxf, wzg, wce, wnj, wzn, wah, woj, wbh, *]) | (with_reducible (first | apply z1 | apply z2 | apply z3 | apply z4) <;> intro hq <;> (try simp only [zH] at hq) <;> (try (exfalso; omega)))))
  all_goals rfl
theorem string_0 (a : Bool) : lim Try.prog cfg (.call 53 [sbP]) (HP [X [sbA a, .slice none 0 0] SB 0 false]) = some (.val (str []), HP [X [sbA a, .slice none 0 0] SB 0 false]) := by
  refine wcd hc wke (Nat.le_of_ble_eq_true rfl) (Nat.le_of_ble_eq_true rfl) ?_
  unfold wqd
  cases a <;> simp only [wokb, wpkb]
  all_goals (repeat' (first | (simp -implicitDefEqProofs (maxSteps := 2000000) (disch := first | with_reducible assumption | omega | (simp only [zS, zA, seval, wjg, wce, wbi] <;> omega) | fail) only [zS, argl, insA, Go.Den.wh, wz, wmb, looks, wec, wac, idOf, riA, seval, Go.Den.wo, kK, wwn, wxn, wyn, wkj, wlj, wvn, wvf, wwf, wmj, wxf, wzg, wce, wnj, wzn, wah, woj, wbh, *]) | (with_reducible (first | apply z1 | apply z2 | apply z3 | apply z4) <;> intro hq <;> (try simp only [zH] at hq) <;> (try (exfalso; omega))) | (with_reducible apply z5; (case hl => (repeat (first | exact .nil | with_reducible apply z6 | with_reducible apply z7))); (case h => kernel_rfl))))
  all_goals rfl
theorem string_1 (l : List UInt8) (h0 : 0 < l.length) (hl : l.length ≤ 1000000) : lim Try.prog cfg (.call 53 [sbP]) (HP [X [sbP, FO 1 l.length (u8s l)] SB 0 false, .tok l.length BY 1]) = some (.val (str l), HP [X [sbP, FO 1 l.length (u8s l)] SB 0 false, .tok l.length BY 1]) := by
  have h := sb_bytes
  refine wcd hc wke (Nat.le_of_ble_eq_true rfl) (Nat.le_of_ble_eq_true rfl) ?_
  unfold wqd
  (repeat' (first | (simp -implicitDefEqProofs (maxSteps := 2000000) (disch := first | with_reducible assumption | omega | (simp only [zS, zA, seval, wjg, wce, wbi] <;> omega) | fail) only [zS, argl, insA, Go.Den.wh, wz, wmb, looks, wec, wac, idOf, riA, seval, Go.Den.wo, kK, wwn, wxn, wyn, wkj, wlj, wvn, wvf, wwf, wmj, wxf, wzg, wce, wnj, wzn, wah, woj, wbh, *]) | (with_reducible (first | apply z1 | apply z2 | apply z3 | apply z4) <;> intro hq <;> (try simp only [zH] at hq) <;> (try (exfalso; omega))) | (with_reducible apply z5; (case hl => (repeat (first | exact .nil | with_reducible apply z6 | with_reducible apply z7))); (case h => kernel_rfl))))
  all_goals rfl
theorem write_1 (l s : List UInt8) (hs : l.length + s.length ≤ 1000000) : lim Try.prog cfg (.call 52 [sbP, str s]) (HP [X [sbP, FO 1 l.length (u8s l)] SB 0 false, .tok l.length BY 1]) = some (.val (.tuple ⟨[.int .i64 s.length, .nilIface]⟩), HP [X [sbP, FO 1 (l ++ s).length (u8s (l ++ s))] SB 0 false, .tok (l ++ s).length BY 1]) := by
  by_cases h : s = []
  · subst h
    rw [List.append_nil]
    exact write_10 l
  · exact write_11 l s hs h
end
end Go.Proofs.Ytdbhfmdndiphcaa
namespace Go.Den
noncomputable section
def addF : List St → List St → List St
  | l, [] => l
  | l, x :: xs => addF (if x ∈ l then l else l ++ [x]) xs
theorem wuz {l xs : List St} {x : St} : addF l (x :: xs) = addF (if x ∈ l then l else l ++ [x]) xs := rfl
theorem addF_mem {y : St} : ∀ (xs l : List St), y ∈ addF l xs ↔ y ∈ l ∨ y ∈ xs := by
  intro xs
  induction xs with
  | nil => intro l; simp [addF]
  | cons x xs ih =>
    intro l
    rw [wuz, ih]
    by_cases h : x ∈ l
    · rw [if_pos h]
      constructor
      · rintro (h1 | h1)
        · exact .inl h1
        · exact .inr (List.mem_cons_of_mem _ h1)
      · rintro (h1 | h1)
        · exact .inl h1
        · rcases List.mem_cons.1 h1 with rfl | h1
          · exact .inl h
          · exact .inr h1
    · rw [if_neg h]
      simp only [List.mem_append, List.mem_cons, List.not_mem_nil, or_false]
      constructor
      · rintro ((h1 | h1) | h1)
        · exact .inl h1
        · exact .inr (.inl h1)
        · exact .inr (.inr h1)
      · rintro (h1 | h1 | h1)
        · exact .inl (.inl h1)
        · exact .inl (.inr h1)
        · exact .inr h1
theorem wqkb : ∀ (xs l : List St), l.Nodup → (addF l xs).Nodup := by
  intro xs
  induction xs with
  | nil => intro l h; exact h
  | cons x xs ih =>
    intro l h
    rw [wuz]
    by_cases hx : x ∈ l
    · rw [if_pos hx]; exact ih l h
    · rw [if_neg hx]
      refine ih _ ?_
      rw [List.nodup_append]
      refine ⟨h, by simp, ?_⟩
      intro a ha b hb
      rw [List.mem_singleton] at hb
      subst hb
      intro hab
      subst hab
      exact hx ha
def keyF (mn mx n : Int) (x : St) : Int × St := (if mx < 0 then min n mn else n, x)
def onF (w : St → List St) (mn mx : Int) : Nat → Int → St → List (Int × St) × List St → List (Int × St) × List St
  | 0, _, _, a => a
  | k + 1, n, x, a =>
    if keyF mn mx n x ∈ a.1 then a
    else
      let b := if mx < 0 ∨ n < mx then (w x).foldl (fun b y => if y.1 ≠ x.1 ∨ n < mn then onF w mn mx k (n + 1) y b else b) (a.1 ++ [keyF mn mx n x], a.2) else (a.1 ++ [keyF mn mx n x], a.2)
      if n ≥ mn then (b.1, addF b.2 [x]) else b
def backF (s : List UInt8) (n : Int) (x : St) : List St :=
  if x.2.at (n.toNat * 2) < 0 then []
  else if x.2.at (n.toNat * 2 + 1) - x.2.at (n.toNat * 2) > s.length - x.1 then []
  else if (s.take (x.2.at (n.toNat * 2 + 1)).toNat).drop (x.2.at (n.toNat * 2)).toNat ≠ (s.take (x.1 + (x.2.at (n.toNat * 2 + 1) - x.2.at (n.toNat * 2))).toNat).drop x.1.toNat then []
  else [(x.1 + (x.2.at (n.toNat * 2 + 1) - x.2.at (n.toNat * 2)), x.2)]
def fromF (w : St → List St) (l : List St) : List St := l.foldl (fun out y => addF out (w y)) []
def groupW (n : Int) (x : St) (l : List St) : List St := l.foldl (fun out y => addF out [(y.1, (y.2.put (n.toNat * 2) x.1).put (n.toNat * 2 + 1) y.1)]) []
mutual
def waysF (s : List UInt8) (bol : Bool) : Rx → St → List St
  | .mk k mn mx n set kids, x =>
    if k = 1 then (if x.1 < s.length ∧ set.getLsbD (s.getD x.1.toNat 0).toNat = true then [(x.1 + 1, x.2)] else [])
    else if k = 7 then (if x.1 = 0 ∧ bol = true then [x] else [])
    else if k = 8 then (if x.1 = s.length then [x] else [])
    else if k = 6 then backF s n x
    else if k = 5 then groupW n x (kidF s bol kids x)
    else if k = 3 then altF s bol kids x []
    else if k = 2 then catF s bol kids [x]
    else if k = 4 then (onF (fun y => kidF s bol kids y) mn mx 100 0 x ([], [])).2
    else []
def kidF (s : List UInt8) (bol : Bool) : List Rx → St → List St
  | [], _ => []
  | r :: _, x => waysF s bol r x
def altF (s : List UInt8) (bol : Bool) : List Rx → St → List St → List St
  | [], _, out => out
  | r :: rs, x, out => altF s bol rs x (addF out (waysF s bol r x))
def catF (s : List UInt8) (bol : Bool) : List Rx → List St → List St
  | [], l => l
  | r :: rs, l => catF s bol rs (fromF (fun y => waysF s bol r y) l)
end
def spanOk (len : Nat) (a b : Int) : Prop := (a = -1 ∧ b = -1) ∨ (0 ≤ a ∧ a ≤ b ∧ b ≤ len)
structure GdS (len : Nat) (x : St) : Prop where
  lo : 0 ≤ x.1
  hi : x.1 ≤ len
  m0 : x.2.at 0 = -1
  m1 : x.2.at 1 = -1
  sp : ∀ g : Nat, 1 ≤ g → g ≤ 3 → spanOk len (x.2.at (g * 2)) (x.2.at (g * 2 + 1))
theorem GdS.move {len : Nat} {x : St} (h : GdS len x) {a : Int} (h1 : 0 ≤ a) (h2 : a ≤ len) : GdS len (a, x.2) := ⟨h1, h2, h.m0, h.m1, h.sp⟩
structure RwS (len : Nat) (at0 : Int) (l : List St) : Prop where
  nd : l.Nodup
  good : ∀ y ∈ l, GdS len y ∧ at0 ≤ y.1
theorem RwS.nil {len : Nat} {a : Int} : RwS len a [] := ⟨List.nodup_nil, fun y h => (by cases h)⟩
theorem RwS.one {len : Nat} {a : Int} {x : St} (h : GdS len x) (ha : a ≤ x.1) : RwS len a [x] := ⟨by simp, fun y hy => by rw [List.mem_singleton] at hy; subst hy; exact ⟨h, ha⟩⟩
theorem RwS.add {len : Nat} {a : Int} {l xs : List St} (h : RwS len a l) (hx : ∀ y ∈ xs, GdS len y ∧ a ≤ y.1) : RwS len a (addF l xs) :=
  ⟨wqkb _ _ h.nd, fun y hy => by rcases (addF_mem _ _).1 hy with h1 | h1; exact h.good y h1; exact hx y h1⟩
theorem nodup_le {α : Type} [DecidableEq α] : ∀ (l L : List α), l.Nodup → (∀ x ∈ l, x ∈ L) → l.length ≤ L.length := by
  intro l
  induction l with
  | nil => intro L _ _; exact Nat.zero_le _
  | cons a l ih =>
    intro L hn hs
    rw [List.nodup_cons] at hn
    have ha := hs a (List.mem_cons_self ..)
    have h1 := ih (L.erase a) hn.2 (fun x hx => by
      refine (List.mem_erase_of_ne ?_).2 (hs x (List.mem_cons_of_mem _ hx))
      intro h
      subst h
      exact hn.1 hx)
    rw [List.length_erase_of_mem ha] at h1
    have := List.length_pos_of_mem ha
    rw [List.length_cons]
    omega
theorem wkw {α β : Type} {f : α → List β} {k : Nat} (h : ∀ a, (f a).length = k) (l : List α) : (l.flatMap f).length = l.length * k := by
  induction l with
  | nil => simp
  | cons a l ih => rw [List.flatMap_cons, List.length_append, h, ih, List.length_cons, Nat.add_mul]; omega
def wcg (len : Nat) : List (Int × Int) := (-1, -1) :: (List.range (len + 1)).flatMap fun (a : Nat) => (List.range (len + 1 - a)).map fun (d : Nat) => ((a : Int), ((a + d : Nat) : Int))
def allSt (len : Nat) : List St := (List.range (len + 1)).flatMap fun (a : Nat) => (wcg len).flatMap fun p => (wcg len).flatMap fun q => (wcg len).map fun r => ((a : Int), ⟨[-1, -1, p.1, p.2, q.1, q.2, r.1, r.2], rfl⟩)
theorem wzr {len : Nat} {a b : Int} (h : spanOk len a b) : (a, b) ∈ wcg len := by
  unfold wcg
  rcases h with ⟨rfl, rfl⟩ | ⟨h1, h2, h3⟩
  · exact List.mem_cons_self ..
  · refine List.mem_cons_of_mem _ (List.mem_flatMap.2 ⟨a.toNat, List.mem_range.2 (by omega), List.mem_map.2 ⟨(b - a).toNat, List.mem_range.2 (by omega), ?_⟩⟩)
    rw [Prod.mk.injEq]
    exact ⟨by omega, by omega⟩
theorem all_mem {len : Nat} {x : St} (h : GdS len x) : x ∈ allSt len := by
  obtain ⟨a, ⟨l, hl⟩⟩ := x
  match l, hl with
  | [c0, c1, c2, c3, c4, c5, c6, c7], hl =>
    obtain ⟨h1, h2, h3, h4, h5⟩ := h
    have e0 : c0 = -1 := h3
    have e1 : c1 = -1 := h4
    subst e0 e1
    have s1 := wzr (h5 1 (by omega) (by omega))
    have s2 := wzr (h5 2 (by omega) (by omega))
    have s3 := wzr (h5 3 (by omega) (by omega))
    have h1 : 0 ≤ a := h1
    have h2 : a ≤ len := h2
    refine List.mem_flatMap.2 ⟨a.toNat, List.mem_range.2 (by omega), List.mem_flatMap.2 ⟨_, s1, List.mem_flatMap.2 ⟨_, s2, List.mem_map.2 ⟨_, s3, ?_⟩⟩⟩⟩
    rw [Prod.mk.injEq]
    exact ⟨by omega, rfl⟩
theorem wotb : ∀ len : Nat, len ≤ 12 → (wcg len).length ≤ 92 := by
  intro len h
  match len, h with
  | 0, _ => decide
  | 1, _ => decide
  | 2, _ => decide
  | 3, _ => decide
  | 4, _ => decide
  | 5, _ => decide
  | 6, _ => decide
  | 7, _ => decide
  | 8, _ => decide
  | 9, _ => decide
  | 10, _ => decide
  | 11, _ => decide
  | 12, _ => decide
theorem row_len {len : Nat} {a : Int} {l : List St} (h : RwS len a l) (hl : len ≤ 12) : l.length ≤ 11000000 := by
  have h1 := nodup_le l (allSt len) h.nd (fun x hx => all_mem (h.good x hx).1)
  have h2 : (allSt len).length = (len + 1) * ((wcg len).length * ((wcg len).length * (wcg len).length)) := by
    unfold allSt
    rw [wkw (k := (wcg len).length * ((wcg len).length * (wcg len).length)), List.length_range]
    intro a
    rw [wkw (k := (wcg len).length * (wcg len).length)]
    intro p
    rw [wkw (k := (wcg len).length)]
    intro q
    rw [List.length_map]
  have h3 := wotb len hl
  have h4 : (len + 1) * ((wcg len).length * ((wcg len).length * (wcg len).length)) ≤ 13 * (92 * (92 * 92)) :=
    Nat.mul_le_mul (by omega) (Nat.mul_le_mul h3 (Nat.mul_le_mul h3 h3))
  omega
end
end Go.Den
namespace Go.Proofs.Ytdbhfmdndiphcaa
set_option linter.unusedVariables false
set_option linter.unusedSimpArgs false
open Go.Den
noncomputable section
end
end Go.Proofs.Ytdbhfmdndiphcaa
namespace Go.Proofs.Ytdbhfmdndiphcaa
set_option linter.unusedVariables false
set_option linter.unusedSimpArgs false
open Go.Den
noncomputable section
end
end Go.Proofs.Ytdbhfmdndiphcaa
namespace Go.Proofs.Ytdbhfmdndiphcaa
set_option linter.unusedVariables false
set_option linter.unusedSimpArgs false
open Go.Den
noncomputable section
abbrev Turn := Int × St
def trC (p : Turn) : List Value := .int .i64 p.1 :: stC p.2
section
variable (s : List UInt8) (bol : Bool) (mn mx nn : Int) (set : BitVec 256) (kids : List Rx)
end
end
end Go.Proofs.Ytdbhfmdndiphcaa
namespace Go.Proofs.Ytdbhfmdndiphcaa
set_option linter.unusedVariables false
set_option linter.unusedSimpArgs false
open Go.Den
noncomputable section
section
variable (s : List UInt8) (bol : Bool) (mn mx nn : Int) (set : BitVec 256) (kids : List Rx)
end
end
end Go.Proofs.Ytdbhfmdndiphcaa
namespace Go.Proofs.Ytdbhfmdndiphcaa
set_option linter.unusedVariables false
set_option linter.unusedSimpArgs false
open Go.Den
noncomputable section
section
variable (s : List UInt8) (bol : Bool) (mn mx nn : Int) (set : BitVec 256) (kids : List Rx)
end
end
end Go.Proofs.Ytdbhfmdndiphcaa
namespace Go.Proofs.Ytdbhfmdndiphcaa
set_option linter.unusedVariables false
set_option linter.unusedSimpArgs false
open Go.Den
noncomputable section
section
variable (s : List UInt8) (bol : Bool) (mn mx nn : Int) (set : BitVec 256) (kids : List Rx)
end
end
end Go.Proofs.Ytdbhfmdndiphcaa
namespace Go.Proofs.Ytdbhfmdndiphcaa
set_option linter.unusedVariables false
set_option linter.unusedSimpArgs false
open Go.Den
noncomputable section
section
variable (s : List UInt8) (bol : Bool)
end
end
end Go.Proofs.Ytdbhfmdndiphcaa
namespace Go.Proofs.Ytdbhfmdndiphcaa
set_option linter.unusedVariables false
set_option linter.unusedSimpArgs false
open Go.Den
noncomputable section
section
variable (s : List UInt8) (bol : Bool)
end
end
end Go.Proofs.Ytdbhfmdndiphcaa
namespace Go.Proofs.Ytdbhfmdndiphcaa
set_option linter.unusedVariables false
set_option linter.unusedSimpArgs false
open Go.Den
noncomputable section
abbrev ints (l : List Int) : List Value := l.map (Value.int .i64)
theorem waq {l : List Int} {i : Nat} (h : i < l.length) : (ints l)[i]? = some (.int .i64 (l.getD i 0)) := by
  rw [ints, List.getElem?_map, List.getD_eq_getElem?_getD, List.getElem?_eq_getElem h]; rfl
theorem wyc {l : List Int} : (ints l).length = l.length := List.length_map ..
theorem wxb {P : Program} {cs : wsb} {R : Type} {K : KR R} {d : Option Tmp} {l : List RO} {e : Env} {H : AH} {wr : List Nat} {want : Bool} {x : ARes} : wfz P cs K d l e H wr want x undef = opsR P cs K l (e.put d undef) H := by cases want <;> rfl
theorem wkc {want : Bool} : wxl want undef = some false := by cases want <;> rfl
theorem wfc : refs JK = [] := rfl
theorem wwc {m : Nm} : renV m JK = JK := rfl
end
end Go.Proofs.Ytdbhfmdndiphcaa
namespace Go.Proofs.Ytdbhfmdndiphcaa
set_option linter.unusedVariables false
set_option linter.unusedSimpArgs false
open Go.Den
noncomputable section
def wptb (l : List Int) (r : Rx) : Bool := l.any fun a => decide (r.kind = a)
def bareF (r : Rx) : Bool := !((decide (r.kind ≠ 1) && decide (r.set ≠ 0#256)) || (decide (r.kind ≠ 4) && (decide (r.mn ≠ 0) || decide (r.mx ≠ 0)))) && (decide (r.kind = 5) || (decide (r.kind = 6) || decide (r.n = 0)))
def repF (r : Rx) : Bool := decide (0 ≤ r.mn) && (decide (r.mn ≤ 20) && (decide (r.mx = -1) || (decide (max r.mn 1 ≤ r.mx) && decide (r.mx ≤ 20))))
end
end Go.Proofs.Ytdbhfmdndiphcaa
namespace Go.Proofs.Ytdbhfmdndiphcaa
set_option linter.unusedVariables false
set_option linter.unusedSimpArgs false
open Go.Den
noncomputable section
end
end Go.Proofs.Ytdbhfmdndiphcaa
namespace Go.Den
set_option linter.unusedVariables false
set_option linter.unusedSimpArgs false
noncomputable section
mutual
def nodesF : Rx → Nat
  | .mk _ _ _ _ _ kids => 1 + wqtb kids
def wqtb : List Rx → Nat
  | [] => 0
  | r :: l => nodesF r + wqtb l
end
end
end Go.Den
namespace Go.Proofs.Ytdbhfmdndiphcaa
open Go.Den
noncomputable section
def kidsOkF (r : Rx) : Bool :=
  if r.kind = 1 then decide ((r.kids.length : Int) = 0) && decide (r.set ≠ 0#256)
  else if r.kind = 2 then decide ((r.kids.length : Int) ≠ 1) && !(r.kids.any (wptb [2, 3]))
  else if r.kind = 3 then decide ((2 : Int) ≤ r.kids.length) && !(r.kids.any (wptb [3]))
  else if r.kind = 4 then decide ((r.kids.length : Int) = 1) && (r.kids.any (wptb [1, 5, 6]) && repF r)
  else if r.kind = 5 then decide ((r.kids.length : Int) = 1)
  else if r.kind = 6 then decide ((r.kids.length : Int) = 0)
  else if r.kind = 7 then decide ((r.kids.length : Int) = 0)
  else if r.kind = 8 then decide ((r.kids.length : Int) = 0)
  else false
end
end Go.Proofs.Ytdbhfmdndiphcaa
namespace Go.Proofs.Ytdbhfmdndiphcaa
set_option linter.unusedVariables false
set_option linter.unusedSimpArgs false
open Go.Den
noncomputable section
mutual
def wrtb : Rx → Int → Int → Bool × Int
  | .mk k mn mx n s kids, d, g =>
    if bareF (.mk k mn mx n s kids) = true then
      if kidsOkF (.mk k mn mx n s kids) = true then
        if k = 5 then (if n = g + 1 then (if d + 1 ≤ 6 then wstb kids (d + 1) (g + 1) else (false, g + 1)) else (false, g + 1))
        else if k = 6 then (decide (1 ≤ n) && decide (n ≤ g), g)
        else wstb kids d g
      else (false, g)
    else (false, g)
def wstb : List Rx → Int → Int → Bool × Int
  | [], _, g => (true, g)
  | r :: l, d, g => if (wrtb r d g).1 = true then wstb l d (wrtb r d g).2 else (false, (wrtb r d g).2)
end
end
end Go.Proofs.Ytdbhfmdndiphcaa
namespace Go.Proofs.Ytdbhfmdndiphcaa
set_option linter.unusedVariables false
set_option linter.unusedSimpArgs false
open Go.Den
noncomputable section
def rightF (r : Rx) : Bool := decide (nodesF r ≤ 40) && ((wrtb r 0 0).1 && decide ((wrtb r 0 0).2 ≤ 3))
end
end Go.Proofs.Ytdbhfmdndiphcaa
namespace Go.Proofs.Ytdbhfmdndiphcaa
set_option linter.unusedVariables false
set_option linter.unusedSimpArgs false
open Go.Den
noncomputable section
def waysAt (r : Rx) (s : List UInt8) (bol : Bool) (a : Int) : List St := if rightF r = true ∧ 0 ≤ a ∧ a ≤ s.length then waysF s bol r (a, mtNone) else []
end
end Go.Proofs.Ytdbhfmdndiphcaa
namespace Go.Proofs.Ytdbhfmdndiphcaa
set_option linter.unusedVariables false
set_option linter.unusedSimpArgs false
open Go.Den
noncomputable section
def bestF : List St → Option St → Option St
  | [], b => b
  | x :: l, none => bestF l (some x)
  | x :: l, some b => bestF l (if x.1 > b.1 then some x else some b)
end
end Go.Proofs.Ytdbhfmdndiphcaa
namespace Go.Proofs.Ytdbhfmdndiphcaa
set_option linter.unusedVariables false
set_option linter.unusedSimpArgs false
open Go.Den
noncomputable section
def firstF (r : Rx) (s : List UInt8) : Nat → Int → Option Mt
  | 0, _ => none
  | k + 1, a => match bestF (waysAt r s true a) none with
    | some b => some ((b.2.put 0 a).put 1 b.1)
    | none => firstF r s k (a + 1)
def firstR (r : Rx) (s : List UInt8) (a : Int) : Option Mt := if rightF r = true ∧ 0 ≤ a ∧ a ≤ s.length then firstF r s (s.length + 1 - a).toNat a else none
end
end Go.Proofs.Ytdbhfmdndiphcaa
namespace Go.Proofs.Ytdbhfmdndiphcaa
set_option linter.unusedVariables false
set_option linter.unusedSimpArgs false
open Go.Den
noncomputable section
end
end Go.Proofs.Ytdbhfmdndiphcaa
namespace Go.Proofs.Ytdbhfmdndiphcaa
set_option linter.unusedVariables false
set_option linter.unusedSimpArgs false
open Go.Den
noncomputable section
abbrev Pc := Int × List UInt8
def pcC (p : Pc) : List Value := [.int .i64 p.1, str p.2]
def pcsC (l : List Pc) : List Value := l.flatMap pcC
theorem wrfb {p : Pc} : (pcC p).length = 2 := rfl
theorem pc_atom {p : Pc} : wgd (pcC p) = true := rfl
theorem wgi {l : List Pc} : (pcsC l).length = l.length * 2 := wyp (fun _ => wrfb) l
theorem wll {l : List Pc} {i : Nat} (h : i < l.length) : slotsOf (pcsC l) (i * 2) 2 = [.int .i64 (l.getD i (0, [])).1, str (l.getD i (0, [])).2] := wtn (fun _ => wrfb) _ l i h
theorem wsfb {l : List Pc} : wgd (pcsC l) = true := wun (fun _ => pc_atom) l
theorem wjc (l : List Pc) : FzL (pcsC l) := fzl wsfb
def wci (m : Mt) (s : List UInt8) (p : Pc) : List UInt8 := if p.1 = -1 then p.2 else wgp m s p.1
def wlf (m : Mt) (s : List UInt8) (l : List Pc) : List UInt8 := l.flatMap (wci m s)
theorem wttb (m : Mt) (s : List UInt8) (n : Int) : (wgp m s n).length ≤ s.length := by
  unfold wgp
  repeat' split
  all_goals first | exact Nat.zero_le _ | (rw [List.length_drop, List.length_take]; omega)
theorem wao {m : Mt} {s : List UInt8} {p : Pc} (hs : s.length ≤ 1000) (hp : p.2.length ≤ 1000) : (wci m s p).length ≤ 1000 := by
  unfold wci
  split
  · exact hp
  · have := wttb m s p.1; omega
theorem wbo {l : List Pc} {i : Nat} (h : i < l.length) : l.drop i = l.getD i (0, []) :: l.drop (i + 1) := by
  rw [List.drop_eq_getElem_cons h, List.getD_eq_getElem?_getD, List.getElem?_eq_getElem h]; rfl
theorem wlw {l : List Pc} {i : Nat} (h : i < l.length) : l.getD i (0, []) ∈ l := by
  rw [List.getD_eq_getElem?_getD, List.getElem?_eq_getElem h]; exact List.getElem_mem h
abbrev sbP1 : Value := .pointer (some ⟨1, 0, none⟩)
def sbA1 (a : Bool) : Value := if a = true then sbP1 else .pointer none
abbrev tfH (m : Mt) : ABlk := X (mtC m) 55 0 true
set_option maxHeartbeats 2000000 in
set_option maxRecDepth 20000 in
theorem fill_C (m : Mt) (s : List UInt8) (hs : s.length ≤ 1000) (L : List Pc) (hL : L.length ≤ 100) (hp : ∀ p ∈ L, p.2.length ≤ 1000) : ∀ (k i : Nat) (l : List UInt8), i + k = L.length → l ≠ [] → l.length ≤ 1000 + i * 1000 →
    lim Try.prog cfg (.loop 45 0 (wmh 0) (SE (EJ 30 G0) [(12, .int .i64 i), (11, .int .i64 L.length), (10, FL L.length (pcsC L)), (7, sbP1), (4, .pointer (some ⟨0, 0, none⟩)), (2, str s)])) (HP [tfH m, X [sbP1, FO 2 l.length (u8s l)] SB 0 false, .tok l.length BY 1]) = some (.code (.exit 0) (SE (EJ 30 G0) [(7, sbP)]), HP [X [sbP, FO 1 (l ++ wlf m s (L.drop i)).length (u8s (l ++ wlf m s (L.drop i)))] SB 0 false, .tok (l ++ wlf m s (L.drop i)).length BY 1]) := by
  intro k
  induction k with
  | zero =>
    intro i l hi hne hl
    clear hp
    rw [List.drop_of_length_le (by omega), wlf, List.flatMap_nil, List.append_nil]
    refine wqb wbf ?_
    unfold wrf
    (repeat' (first | (simp -implicitDefEqProofs (maxSteps := 2000000) (disch := first | with_reducible assumption | omega | (simp only [zS, zA, seval, wbi, wvj, wjc, zD] <;> omega) | fail) only [zS, argl, insA, Go.Den.wh, wz, wmb, looks, wec, wac, idOf, riA, seval, Go.Den.wo, kK, wtf, *, zT]) | (with_reducible (first | apply z1 | apply z2 | apply z3 | apply z4) <;> intro hq <;> (try simp only [zH] at hq) <;> (try (exfalso; omega)))))
  | succ k ih =>
    intro i l hi hne hl
    have hlt : i < L.length := by omega
    have hpl := wao (m := m) hs (hp _ (wlw hlt))
    rw [wbo hlt, wlf, List.flatMap_cons]
    have hg := wjw m s (L.getD i (0, [])).1
    have hq : (if (L.getD i (0, [])).1 = -1 then (L.getD i (0, [])).2 else wgp m s (L.getD i (0, [])).1) = wci m s (L.getD i (0, [])) := rfl
    generalize wci m s (L.getD i (0, [])) = p at *
    have hlen : (pcsC L).length = L.length * 2 := wgi
    have hle : i * 2 + 2 ≤ (pcsC L).length := by omega
    have hi2 : i + 1 + k = L.length := by omega
    have hl2 : l.length ≤ 1000 + (i + 1) * 1000 := by omega
    have h := ih (i + 1) (l ++ p) hi2 (by simp [hne]) (by rw [List.length_append]; omega)
    rw [← List.append_assoc]
    unfold wlf at h
    generalize l ++ p ++ List.flatMap (wci m s) (L.drop (i + 1)) = R at h ⊢
    have hw := write_1 l p (by omega)
    generalize l ++ p = l2 at h hw
    clear ih hp
    by_cases h1 : (L.getD i (0, [])).1 = -1
    case' pos => rw [if_pos h1] at hq
    case' neg => rw [if_neg h1] at hq
    all_goals
      refine wqb wbf ?_
      unfold wrf
      (repeat' (first | (simp -implicitDefEqProofs (maxSteps := 2000000) (disch := first | with_reducible assumption | omega | (simp only [zS, zA, seval, wbi, wvj, wjc, zD] <;> omega) | fail) only [zS, argl, insA, Go.Den.wh, wz, wmb, looks, wec, wac, idOf, riA, seval, Go.Den.wo, kK, wtf, wll, *, zT]) | (with_reducible (first | apply z1 | apply z2 | apply z3 | apply z4) <;> intro hq <;> (try simp only [zH] at hq) <;> (try (exfalso; omega)))))
      exact h
theorem sbA1_t : sbA1 true = sbP1 := rfl
theorem sbA1_f : sbA1 false = .pointer none := rfl
set_option maxHeartbeats 4000000 in
theorem fill_N (m : Mt) (s : List UInt8) (hs : s.length ≤ 1000) (L : List Pc) (hL : L.length ≤ 100) (hp : ∀ p ∈ L, p.2.length ≤ 1000) : ∀ (k i : Nat) (a : Bool), i + k = L.length →
    lim Try.prog cfg (.loop 45 0 (wmh 0) (SE (EJ 30 G0) [(12, .int .i64 i), (11, .int .i64 L.length), (10, FL L.length (pcsC L)), (7, sbP1), (4, .pointer (some ⟨0, 0, none⟩)), (2, str s)])) (HP [tfH m, X [sbA1 a, .slice none 0 0] SB 0 false]) = some (.code (.exit 0) (SE (EJ 30 G0) [(7, sbP)]), HP (sbH (a || decide (0 < k)) (wlf m s (L.drop i)))) := by
  intro k
  induction k with
  | zero =>
    intro i a hi
    clear hp
    rw [List.drop_of_length_le (by omega), wlf, List.flatMap_nil, sbH_0, show (a || decide (0 < 0)) = a by cases a <;> rfl]
    refine wqb wbf ?_
    unfold wrf
    cases a <;> simp only [wokb, wpkb, sbA1_t, sbA1_f]
    all_goals (repeat' (first | (simp -implicitDefEqProofs (maxSteps := 2000000) (disch := first | with_reducible assumption | omega | (simp only [zS, zA, seval, wbi, wvj, wjc, zD] <;> omega) | fail) only [zS, argl, insA, Go.Den.wh, wz, wmb, looks, wec, wac, idOf, riA, seval, Go.Den.wo, kK, wtf, *, zT]) | (with_reducible (first | apply z1 | apply z2 | apply z3 | apply z4) <;> intro hq <;> (try simp only [zH] at hq) <;> (try (exfalso; omega)))))
  | succ k ih =>
    intro i a hi
    have hlt : i < L.length := by omega
    have hpl := wao (m := m) hs (hp _ (wlw hlt))
    have hi2 : i + 1 + k = L.length := by omega
    rw [wbo hlt, wlf, List.flatMap_cons]
    have hg := wjw m s (L.getD i (0, [])).1
    have hq : (if (L.getD i (0, [])).1 = -1 then (L.getD i (0, [])).2 else wgp m s (L.getD i (0, [])).1) = wci m s (L.getD i (0, [])) := rfl
    have hC := fill_C m s hs L hL hp k (i + 1)
    generalize wci m s (L.getD i (0, [])) = p at *
    have hlen : (pcsC L).length = L.length * 2 := wgi
    have hle : i * 2 + 2 ≤ (pcsC L).length := by omega
    have hpl2 : p.length ≤ 1000 + (i + 1) * 1000 := by omega
    have hpl3 : p.length ≤ 1000000 := by omega
    have ha : (a || decide (0 < k + 1)) = true := by rw [decide_eq_true (Nat.succ_pos k), Bool.or_true]
    rw [ha]
    by_cases h0 : p = []
    case' pos =>
      have h := ih (i + 1) true hi2
      rw [Bool.true_or] at h
      rw [h0, List.nil_append]
      rw [h0] at hq
      unfold wlf at h
      generalize sbH true (List.flatMap (wci m s) (L.drop (i + 1))) = R at h ⊢
      have hw := write_00 a
    case' neg =>
      have h := hC p hi2 h0 hpl2
      have hne : p ++ List.flatMap (wci m s) (L.drop (i + 1)) ≠ [] := by simp [h0]
      rw [sbH_1 hne]
      unfold wlf at h
      generalize p ++ List.flatMap (wci m s) (L.drop (i + 1)) = R at h ⊢
      have hw := write_01 a p hpl3 h0
      clear hne
    all_goals
      clear ih hp hC ha hpl hpl2 hpl3 hi2
      by_cases h1 : (L.getD i (0, [])).1 = -1
      case' pos => rw [if_pos h1] at hq
      case' neg => rw [if_neg h1] at hq
    all_goals
      cases a <;> simp only [wokb, wpkb, sbA1_t, sbA1_f] at hw h ⊢
    all_goals
      refine wqb wbf ?_
      unfold wrf
      (repeat' (first | (simp -implicitDefEqProofs (maxSteps := 2000000) (disch := first | with_reducible assumption | omega | (simp only [zS, zA, seval, wbi, wvj, wjc, zD] <;> omega) | fail) only [zS, argl, insA, Go.Den.wh, wz, wmb, looks, wec, wac, idOf, riA, seval, Go.Den.wo, kK, wtf, wll, *, zT]) | (with_reducible (first | apply z1 | apply z2 | apply z3 | apply z4) <;> intro hq <;> (try simp only [zH] at hq) <;> (try (exfalso; omega)))))
      exact h
theorem wutb (a : Bool) (l : List UInt8) (hl : l.length ≤ 1000000) : lim Try.prog cfg (.call 53 [sbP]) (HP (sbH a l)) = some (.val (str l), HP (sbH a l)) := by
  by_cases h : l = []
  · subst h
    rw [sbH_0]
    exact string_0 a
  · rw [sbH_1 h]
    exact string_1 l (List.length_pos_iff.2 h) hl
theorem wmw (m : Mt) (s : List UInt8) (hs : s.length ≤ 1000) : ∀ L : List Pc, (∀ p ∈ L, p.2.length ≤ 1000) → (wlf m s L).length ≤ L.length * 1000 := by
  intro L
  induction L with
  | nil => intro _; exact Nat.le_refl _
  | cons p L ih =>
    intro h
    have h1 := ih fun q hq => h q (List.mem_cons_of_mem _ hq)
    have h2 := wao (m := m) hs (h p (List.mem_cons_self ..))
    unfold wlf at h1 ⊢
    rw [List.flatMap_cons, List.length_append, List.length_cons]
    omega
theorem wbs (m : Mt) (s : List UInt8) (hs : s.length ≤ 1000) (L : List Pc) (hL : L.length ≤ 100) (hp : ∀ p ∈ L, p.2.length ≤ 1000) : lim Try.prog cfg (.call 45 [FL L.length (pcsC L), .agg ⟨mtC m⟩, str s]) (HP []) = some (.val (str (wlf m s L)), HP []) := by
  have h := fill_N m s hs L hL hp L.length 0 false (by omega)
  have hlen := wmw m s hs L hp
  rw [List.drop_zero, Bool.false_or, show ((0 : Nat) : Int) = 0 from rfl, show sbA1 false = .pointer none from rfl] at h
  generalize wlf m s L = R at *
  generalize decide (0 < L.length) = a at h
  have hw := wutb a R (by omega)
  clear hp hlen
  refine wcd hc wts (Nat.le_of_ble_eq_true rfl) (Nat.le_of_ble_eq_true rfl) ?_
  unfold wyr
  by_cases hR : R = []
  case' pos =>
    subst hR
    rw [sbH_0] at h hw
    cases a <;> simp only [wokb, wpkb] at h hw
  case' neg => rw [sbH_1 hR] at h hw
  all_goals (repeat' (first | (simp -implicitDefEqProofs (maxSteps := 2000000) (disch := first | with_reducible assumption | omega | (simp only [zS, zA, seval, wbi, wvj, wjc, zD] <;> omega) | fail) only [zS, argl, insA, Go.Den.wh, wz, wmb, looks, wec, wac, idOf, riA, seval, Go.Den.wo, kK, wtf, *, zT]) | (with_reducible (first | apply z1 | apply z2 | apply z3 | apply z4) <;> intro hq <;> (try simp only [zH] at hq) <;> (try (exfalso; omega)))))
end
end Go.Proofs.Ytdbhfmdndiphcaa
namespace Go.Proofs.Ytdbhfmdndiphcaa
set_option linter.unusedVariables false
set_option linter.unusedSimpArgs false
open Go.Den
noncomputable section
theorem wtfb {l : List Pc} {i : Nat} (h : i < l.length) : (pcsC l)[i * 2]? = some (.int .i64 (l.getD i (0, [])).1) := by
  have h1 := wll h
  unfold slotsOf at h1
  have h2 : (((pcsC l).drop (i * 2)).take 2)[0]? = some (.int .i64 (l.getD i (0, [])).1) := by rw [h1]; rfl
  rw [List.getElem?_take, if_pos (by omega), List.getElem?_drop] at h2
  exact h2
theorem wbq {l : List Pc} {p : Pc} : pcsC (l ++ [p]) = pcsC l ++ [.int .i64 p.1, str p.2] := by unfold pcsC; rw [List.flatMap_append]; rfl
def okP (g : Int) (b : Bool) (p : Pc) : Bool := if p.1 = -1 then (if p.2 = [] then false else if 400 < p.2.length then false else !b) else if p.1 < 0 then false else if g < p.1 then false else decide (p.2 = [])
def woc (g : Int) : Bool → List Pc → Bool
  | _, [] => true
  | b, p :: l => okP g b p && woc g (decide (p.1 = -1)) l
def wvz (b : Bool) : List Pc → Bool
  | [] => b
  | p :: l => wvz (decide (p.1 = -1)) l
theorem wzt {g : Int} : ∀ (l : List Pc) (b : Bool) (p : Pc), woc g b (l ++ [p]) = (woc g b l && okP g (wvz b l) p) := by
  intro l
  induction l with
  | nil => intro b p; simp [woc, wvz]
  | cons q l ih => intro b p; rw [List.cons_append, woc, ih, woc, wvz, Bool.and_assoc]
theorem wvtb : ∀ (l : List Pc) (b : Bool) (p : Pc), wvz b (l ++ [p]) = decide (p.1 = -1) := by
  intro l
  induction l with
  | nil => intro b p; rfl
  | cons q l ih => intro b p; rw [List.cons_append, wvz, ih]
theorem last_get : ∀ (l : List Pc) (b : Bool), 0 < l.length → wvz b l = decide ((l.getD (l.length - 1) (0, [])).1 = -1) := by
  intro l b h
  obtain ⟨p, q, rfl⟩ : ∃ p q, l = p ++ [q] := ⟨l.dropLast, l.getLast (by intro e; rw [e] at h; simp at h), (List.dropLast_concat_getLast _).symm⟩
  rw [wvtb]
  congr 1
  rw [List.length_append, List.getD_eq_getElem?_getD, List.getElem?_append_right (by simp)]
  simp
def rgO (b : Bool) : Option (Out × AH) := if b = true then some (.code (.exit 0) (SE (EJ 63 G0) [(4, JK)]), HP []) else some (.code .ret (SE (EJ 63 G0) [(4, .bool false)]), HP [])
theorem rgO_t : rgO true = some (.code (.exit 0) (SE (EJ 63 G0) [(4, JK)]), HP []) := rfl
theorem wmp : rgO false = some (.code .ret (SE (EJ 63 G0) [(4, .bool false)]), HP []) := rfl
def rgX (b : Bool) : Out × AH := if b = true then (.code (.exit 0) (SE (EJ 63 G0) [(4, JK)]), HP []) else (.code .ret (SE (EJ 63 G0) [(4, .bool false)]), HP [])
theorem wwtb (b : Bool) : rgO b = some (rgX b) := by cases b <;> rfl
theorem ej63 : (EJ 63 G0).get 4 = JK := rfl
set_option maxHeartbeats 4000000 in
theorem wrkb (g : Int) (L : List Pc) (hL : L.length ≤ 100) (hp : ∀ p ∈ L, p.2.length ≤ 1000) : ∀ (k i : Nat) (b : Bool), i + k = L.length → (i = 0 ∧ b = false ∨ ∃ j, i = j + 1 ∧ b = decide ((L.getD j (0, [])).1 = -1)) →
    lim Try.prog cfg (.loop 46 0 (wai 0) (SE (EJ 63 G0) [(9, .int .i64 i), (8, .int .i64 L.length), (7, FL L.length (pcsC L)), (1, .int .i64 g), (0, FL L.length (pcsC L))])) (HP []) = rgO (woc g b (L.drop i)) := by
  intro k
  induction k with
  | zero =>
    intro i b hi hb
    clear hp hb
    rw [List.drop_of_length_le (by omega), woc, rgO_t]
    refine wqb wcb ?_
    unfold wpb
    (repeat' (first | (simp -implicitDefEqProofs (maxSteps := 2000000) (disch := first | with_reducible assumption | omega | (simp only [zS, zA, seval, wjc, wfc, wwc, zD] <;> omega) | fail) only [zS, argl, insA, Go.Den.wh, wz, wmb, looks, wec, wac, idOf, riA, seval, Go.Den.wo, kK, wkb, wfc, wwc, ej63, *, zT]) | (with_reducible (first | apply z1 | apply z2 | apply z3 | apply z4) <;> intro hq <;> (try simp only [zH] at hq) <;> (try (exfalso; omega)))))
  | succ k ih =>
    intro i b hi hb
    have hlt : i < L.length := by omega
    have hpl := hp _ (wlw hlt)
    have hlen : (pcsC L).length = L.length * 2 := wgi
    have hle : i * 2 + 2 ≤ (pcsC L).length := by omega
    have h := ih (i + 1) _ (by omega) (.inr ⟨i, rfl, rfl⟩)
    rw [wbo hlt, woc]
    generalize woc g (decide ((L.getD i (0, [])).1 = -1)) (L.drop (i + 1)) = R at *
    have hg := wll (l := L) hlt
    generalize L.getD i (0, []) = p at *
    obtain ⟨a, t⟩ := p
    clear ih hp
    rw [wwtb] at h
    rcases hb with ⟨rfl, rfl⟩ | ⟨j, rfl, hb⟩
    · rw [show ((0 : Nat) : Int) = 0 from rfl]
      rw [show ((0 + 1 : Nat) : Int) = 1 from rfl] at h
      unfold okP
      by_cases h1 : a = -1
      · subst h1
        rw [if_pos rfl]
        by_cases h2 : t = []
        · subst h2
          rw [if_pos rfl]
          rw [Bool.false_and, wmp]
          clear h
          refine wqb wcb ?_
          unfold wpb
          (repeat' (first | (simp -implicitDefEqProofs (maxSteps := 2000000) (disch := first | with_reducible assumption | omega | (simp only [zS, zA, seval, wjc, wfc, wwc, zD] <;> omega) | fail) only [zS, argl, insA, Go.Den.wh, wz, wmb, looks, wec, wac, idOf, riA, seval, Go.Den.wo, kK, wkb, wxb, wkc, wfc, wwc, ej63, *, zT]) | (with_reducible (first | apply z1 | apply z2 | apply z3 | apply z4) <;> intro hq <;> (try simp only [zH] at hq) <;> (try (exfalso; omega)))))
        · rw [if_neg h2]
          by_cases h3 : 400 < t.length
          · rw [if_pos h3]
            rw [Bool.false_and, wmp]
            clear h
            refine wqb wcb ?_
            unfold wpb
            (repeat' (first | (simp -implicitDefEqProofs (maxSteps := 2000000) (disch := first | with_reducible assumption | omega | (simp only [zS, zA, seval, wjc, wfc, wwc, zD] <;> omega) | fail) only [zS, argl, insA, Go.Den.wh, wz, wmb, looks, wec, wac, idOf, riA, seval, Go.Den.wo, kK, wkb, wxb, wkc, wfc, wwc, ej63, *, zT]) | (with_reducible (first | apply z1 | apply z2 | apply z3 | apply z4) <;> intro hq <;> (try simp only [zH] at hq) <;> (try (exfalso; omega)))))
          · rw [if_neg h3]
            rw [Bool.not_false]
            rw [Bool.true_and, wwtb]
            refine wqb wcb ?_
            unfold wpb
            (repeat' (first | (simp -implicitDefEqProofs (maxSteps := 2000000) (disch := first | with_reducible assumption | omega | (simp only [zS, zA, seval, wjc, wfc, wwc, zD] <;> omega) | fail) only [zS, argl, insA, Go.Den.wh, wz, wmb, looks, wec, wac, idOf, riA, seval, Go.Den.wo, kK, wkb, wxb, wkc, wfc, wwc, ej63, *, zT]) | (with_reducible (first | apply z1 | apply z2 | apply z3 | apply z4) <;> intro hq <;> (try simp only [zH] at hq) <;> (try (exfalso; omega)))))
            all_goals exact h
      · rw [if_neg h1]
        by_cases h2 : a < 0
        · rw [if_pos h2]
          rw [Bool.false_and, wmp]
          clear h
          refine wqb wcb ?_
          unfold wpb
          (repeat' (first | (simp -implicitDefEqProofs (maxSteps := 2000000) (disch := first | with_reducible assumption | omega | (simp only [zS, zA, seval, wjc, wfc, wwc, zD] <;> omega) | fail) only [zS, argl, insA, Go.Den.wh, wz, wmb, looks, wec, wac, idOf, riA, seval, Go.Den.wo, kK, wkb, wxb, wkc, wfc, wwc, ej63, *, zT]) | (with_reducible (first | apply z1 | apply z2 | apply z3 | apply z4) <;> intro hq <;> (try simp only [zH] at hq) <;> (try (exfalso; omega)))))
        · rw [if_neg h2]
          by_cases h3 : g < a
          · rw [if_pos h3]
            rw [Bool.false_and, wmp]
            clear h
            refine wqb wcb ?_
            unfold wpb
            (repeat' (first | (simp -implicitDefEqProofs (maxSteps := 2000000) (disch := first | with_reducible assumption | omega | (simp only [zS, zA, seval, wjc, wfc, wwc, zD] <;> omega) | fail) only [zS, argl, insA, Go.Den.wh, wz, wmb, looks, wec, wac, idOf, riA, seval, Go.Den.wo, kK, wkb, wxb, wkc, wfc, wwc, ej63, *, zT]) | (with_reducible (first | apply z1 | apply z2 | apply z3 | apply z4) <;> intro hq <;> (try simp only [zH] at hq) <;> (try (exfalso; omega)))))
          · rw [if_neg h3]
            by_cases h4 : t = []
            · subst h4
              rw [decide_eq_true rfl]
              rw [Bool.true_and, wwtb]
              refine wqb wcb ?_
              unfold wpb
              (repeat' (first | (simp -implicitDefEqProofs (maxSteps := 2000000) (disch := first | with_reducible assumption | omega | (simp only [zS, zA, seval, wjc, wfc, wwc, zD] <;> omega) | fail) only [zS, argl, insA, Go.Den.wh, wz, wmb, looks, wec, wac, idOf, riA, seval, Go.Den.wo, kK, wkb, wxb, wkc, wfc, wwc, ej63, *, zT]) | (with_reducible (first | apply z1 | apply z2 | apply z3 | apply z4) <;> intro hq <;> (try simp only [zH] at hq) <;> (try (exfalso; omega)))))
              all_goals exact h
            · rw [decide_eq_false h4]
              rw [Bool.false_and, wmp]
              clear h
              refine wqb wcb ?_
              unfold wpb
              (repeat' (first | (simp -implicitDefEqProofs (maxSteps := 2000000) (disch := first | with_reducible assumption | omega | (simp only [zS, zA, seval, wjc, wfc, wwc, zD] <;> omega) | fail) only [zS, argl, insA, Go.Den.wh, wz, wmb, looks, wec, wac, idOf, riA, seval, Go.Den.wo, kK, wkb, wxb, wkc, wfc, wwc, ej63, *, zT]) | (with_reducible (first | apply z1 | apply z2 | apply z3 | apply z4) <;> intro hq <;> (try simp only [zH] at hq) <;> (try (exfalso; omega)))))
    · have hlast := wtfb (l := L) (i := j) (by omega)
      generalize (L.getD j (0, [])).1 = q at *
      subst hb
      have hj1 : ((j + 1 : Nat) : Int) - 1 = j := by omega
      unfold okP
      by_cases h1 : a = -1
      · subst h1
        rw [if_pos rfl]
        by_cases h2 : t = []
        · subst h2
          rw [if_pos rfl]
          rw [Bool.false_and, wmp]
          clear h
          refine wqb wcb ?_
          unfold wpb
          (repeat' (first | (simp -implicitDefEqProofs (maxSteps := 2000000) (disch := first | with_reducible assumption | omega | (simp only [zS, zA, seval, wjc, wfc, wwc, zD] <;> omega) | fail) only [zS, argl, insA, Go.Den.wh, wz, wmb, looks, wec, wac, idOf, riA, seval, Go.Den.wo, kK, wkb, wxb, wkc, wfc, wwc, ej63, *, zT]) | (with_reducible (first | apply z1 | apply z2 | apply z3 | apply z4) <;> intro hq <;> (try simp only [zH] at hq) <;> (try (exfalso; omega)))))
        · rw [if_neg h2]
          by_cases h3 : 400 < t.length
          · rw [if_pos h3]
            rw [Bool.false_and, wmp]
            clear h
            refine wqb wcb ?_
            unfold wpb
            (repeat' (first | (simp -implicitDefEqProofs (maxSteps := 2000000) (disch := first | with_reducible assumption | omega | (simp only [zS, zA, seval, wjc, wfc, wwc, zD] <;> omega) | fail) only [zS, argl, insA, Go.Den.wh, wz, wmb, looks, wec, wac, idOf, riA, seval, Go.Den.wo, kK, wkb, wxb, wkc, wfc, wwc, ej63, *, zT]) | (with_reducible (first | apply z1 | apply z2 | apply z3 | apply z4) <;> intro hq <;> (try simp only [zH] at hq) <;> (try (exfalso; omega)))))
          · rw [if_neg h3]
            by_cases h4 : q = -1
            · rw [decide_eq_true h4, Bool.not_true]
              rw [Bool.false_and, wmp]
              clear h
              refine wqb wcb ?_
              unfold wpb
              (repeat' (first | (simp -implicitDefEqProofs (maxSteps := 2000000) (disch := first | with_reducible assumption | omega | (simp only [zS, zA, seval, wjc, wfc, wwc, zD] <;> omega) | fail) only [zS, argl, insA, Go.Den.wh, wz, wmb, looks, wec, wac, idOf, riA, seval, Go.Den.wo, kK, wkb, wxb, wkc, wfc, wwc, ej63, *, zT]) | (with_reducible (first | apply z1 | apply z2 | apply z3 | apply z4) <;> intro hq <;> (try simp only [zH] at hq) <;> (try (exfalso; omega)))))
            · rw [decide_eq_false h4, Bool.not_false]
              rw [Bool.true_and, wwtb]
              refine wqb wcb ?_
              unfold wpb
              (repeat' (first | (simp -implicitDefEqProofs (maxSteps := 2000000) (disch := first | with_reducible assumption | omega | (simp only [zS, zA, seval, wjc, wfc, wwc, zD] <;> omega) | fail) only [zS, argl, insA, Go.Den.wh, wz, wmb, looks, wec, wac, idOf, riA, seval, Go.Den.wo, kK, wkb, wxb, wkc, wfc, wwc, ej63, *, zT]) | (with_reducible (first | apply z1 | apply z2 | apply z3 | apply z4) <;> intro hq <;> (try simp only [zH] at hq) <;> (try (exfalso; omega)))))
              all_goals exact h
      · rw [if_neg h1]
        by_cases h2 : a < 0
        · rw [if_pos h2]
          rw [Bool.false_and, wmp]
          clear h
          refine wqb wcb ?_
          unfold wpb
          (repeat' (first | (simp -implicitDefEqProofs (maxSteps := 2000000) (disch := first | with_reducible assumption | omega | (simp only [zS, zA, seval, wjc, wfc, wwc, zD] <;> omega) | fail) only [zS, argl, insA, Go.Den.wh, wz, wmb, looks, wec, wac, idOf, riA, seval, Go.Den.wo, kK, wkb, wxb, wkc, wfc, wwc, ej63, *, zT]) | (with_reducible (first | apply z1 | apply z2 | apply z3 | apply z4) <;> intro hq <;> (try simp only [zH] at hq) <;> (try (exfalso; omega)))))
        · rw [if_neg h2]
          by_cases h3 : g < a
          · rw [if_pos h3]
            rw [Bool.false_and, wmp]
            clear h
            refine wqb wcb ?_
            unfold wpb
            (repeat' (first | (simp -implicitDefEqProofs (maxSteps := 2000000) (disch := first | with_reducible assumption | omega | (simp only [zS, zA, seval, wjc, wfc, wwc, zD] <;> omega) | fail) only [zS, argl, insA, Go.Den.wh, wz, wmb, looks, wec, wac, idOf, riA, seval, Go.Den.wo, kK, wkb, wxb, wkc, wfc, wwc, ej63, *, zT]) | (with_reducible (first | apply z1 | apply z2 | apply z3 | apply z4) <;> intro hq <;> (try simp only [zH] at hq) <;> (try (exfalso; omega)))))
          · rw [if_neg h3]
            by_cases h4 : t = []
            · subst h4
              rw [decide_eq_true rfl]
              rw [Bool.true_and, wwtb]
              refine wqb wcb ?_
              unfold wpb
              (repeat' (first | (simp -implicitDefEqProofs (maxSteps := 2000000) (disch := first | with_reducible assumption | omega | (simp only [zS, zA, seval, wjc, wfc, wwc, zD] <;> omega) | fail) only [zS, argl, insA, Go.Den.wh, wz, wmb, looks, wec, wac, idOf, riA, seval, Go.Den.wo, kK, wkb, wxb, wkc, wfc, wwc, ej63, *, zT]) | (with_reducible (first | apply z1 | apply z2 | apply z3 | apply z4) <;> intro hq <;> (try simp only [zH] at hq) <;> (try (exfalso; omega)))))
              all_goals exact h
            · rw [decide_eq_false h4]
              rw [Bool.false_and, wmp]
              clear h
              refine wqb wcb ?_
              unfold wpb
              (repeat' (first | (simp -implicitDefEqProofs (maxSteps := 2000000) (disch := first | with_reducible assumption | omega | (simp only [zS, zA, seval, wjc, wfc, wwc, zD] <;> omega) | fail) only [zS, argl, insA, Go.Den.wh, wz, wmb, looks, wec, wac, idOf, riA, seval, Go.Den.wo, kK, wkb, wxb, wkc, wfc, wwc, ej63, *, zT]) | (with_reducible (first | apply z1 | apply z2 | apply z3 | apply z4) <;> intro hq <;> (try simp only [zH] at hq) <;> (try (exfalso; omega)))))
set_option maxHeartbeats 4000000 in
theorem wvk (g : Int) (L : List Pc) (hL : L.length ≤ 100) (hp : ∀ p ∈ L, p.2.length ≤ 1000) : lim Try.prog cfg (.call 46 [FL L.length (pcsC L), .int .i64 g]) (HP []) = some (.val (.bool (woc g false L)), HP []) := by
  have h := wrkb g L hL hp L.length 0 false (by omega) (.inl ⟨rfl, rfl⟩)
  rw [List.drop_zero, show ((0 : Nat) : Int) = 0 from rfl] at h
  clear hp
  generalize woc g false L = b at h ⊢
  cases b with
  | true =>
    rw [rgO_t] at h
    refine wcd hc wuk (Nat.le_of_ble_eq_true rfl) (Nat.le_of_ble_eq_true rfl) ?_
    unfold wtk
    (repeat' (first | (simp -implicitDefEqProofs (maxSteps := 2000000) (disch := first | with_reducible assumption | omega | (simp only [zS, zA, seval, wjc, wfc, wwc, zD] <;> omega) | fail) only [zS, argl, insA, Go.Den.wh, wz, wmb, looks, wec, wac, idOf, riA, seval, Go.Den.wo, kK, wkb, wfc, wwc, ej63, *, zT]) | (with_reducible (first | apply z1 | apply z2 | apply z3 | apply z4) <;> intro hq <;> (try simp only [zH] at hq) <;> (try (exfalso; omega)))))
  | false =>
    rw [wmp] at h
    refine wcd hc wuk (Nat.le_of_ble_eq_true rfl) (Nat.le_of_ble_eq_true rfl) ?_
    unfold wtk
    (repeat' (first | (simp -implicitDefEqProofs (maxSteps := 2000000) (disch := first | with_reducible assumption | omega | (simp only [zS, zA, seval, wjc, wfc, wwc, zD] <;> omega) | fail) only [zS, argl, insA, Go.Den.wh, wz, wmb, looks, wec, wac, idOf, riA, seval, Go.Den.wo, kK, wkb, wfc, wwc, ej63, *, zT]) | (with_reducible (first | apply z1 | apply z2 | apply z3 | apply z4) <;> intro hq <;> (try simp only [zH] at hq) <;> (try (exfalso; omega)))))
end
end Go.Proofs.Ytdbhfmdndiphcaa
namespace Go.Proofs.Ytdbhfmdndiphcaa
set_option linter.unusedVariables false
set_option linter.unusedSimpArgs false
open Go.Den
noncomputable section
theorem wIn (n lo hi : Int) (h : lo ≤ hi) : lo ≤ wtd n lo hi ∧ wtd n lo hi ≤ hi := by
  have h1 := Int.emod_nonneg n (show hi - lo + 1 ≠ 0 by omega)
  have h2 := Int.emod_lt_of_pos n (show 0 < hi - lo + 1 by omega)
  unfold wtd
  rw [Int.tmod_eq_emod]
  split <;> split <;> omega
set_option maxHeartbeats 4000000 in
theorem wwz (ks : List Int) (g : Int) (h0 : 0 ≤ g) (h3 : g ≤ 3) : ∀ (k i : Nat) (out : List Pc), i + k = 5 → out ≠ [] → out.length ≤ i → woc g false out = true →
    ∃ L : List Pc, lim Try.prog cfg (.loop 44 0 (wic 0) (SE (EJ 64 G0) [(6, .int .i64 i), (5, FO 1 out.length (pcsC out)), (2, .pointer (some ⟨0, 0, none⟩)), (1, .int .i64 g)])) (HP [X [FL ks.length (ints ks)] 83 0 true, .tok out.length 79 2]) = some (.code (.exit 0) (SE (EJ 64 G0) [(5, FO 0 L.length (pcsC L))]), HP [.tok L.length 79 2]) ∧ L ≠ [] ∧ L.length ≤ 5 ∧ woc g false L = true := by
  intro k
  induction k with
  | zero =>
    intro i out hi hne hl hr
    refine ⟨out, ?_, hne, by omega, hr⟩
    clear hr
    refine wqb wob ?_
    unfold wrb
    by_cases hk : i < ks.length
    all_goals
      (repeat' (first | (simp -implicitDefEqProofs (maxSteps := 2000000) (disch := first | with_reducible assumption | omega | (simp only [zS, zA, seval, wjc, zD] <;> omega) | fail) only [zS, argl, insA, Go.Den.wh, wz, wmb, looks, wec, wac, idOf, riA, seval, Go.Den.wo, kK, wjb, wyc, *, zT]) | (with_reducible (first | apply z1 | apply z2 | apply z3 | apply z4) <;> intro hq <;> (try simp only [zH] at hq) <;> (try (exfalso; omega)))))
  | succ k ih =>
    intro i out hi hne hl hr
    by_cases hk : i < ks.length
    case neg =>
      refine ⟨out, ?_, hne, by omega, hr⟩
      clear hr ih
      refine wqb wob ?_
      unfold wrb
      (repeat' (first | (simp -implicitDefEqProofs (maxSteps := 2000000) (disch := first | with_reducible assumption | omega | (simp only [zS, zA, seval, wjc, zD] <;> omega) | fail) only [zS, argl, insA, Go.Den.wh, wz, wmb, looks, wec, wac, idOf, riA, seval, Go.Den.wo, kK, wjb, wyc, *, zT]) | (with_reducible (first | apply z1 | apply z2 | apply z3 | apply z4) <;> intro hq <;> (try simp only [zH] at hq) <;> (try (exfalso; omega)))))
    case pos =>
      have hg := waq (l := ks) (i := i) hk
      have hlen : (pcsC out).length = out.length * 2 := wgi
      have hpos : 0 < out.length := List.length_pos_iff.2 hne
      have hlast := wtfb (l := out) (i := out.length - 1) (by omega)
      have hlg := last_get out false hpos
      have hok : ∀ p, woc g false (out ++ [p]) = okP g (decide ((out.getD (out.length - 1) (0, [])).1 = -1)) p := fun p => by rw [wzt, hr, Bool.true_and, hlg]
      clear hlg
      rw [show (pcsC out)[(out.length - 1) * 2]? = (pcsC out)[((out.length : Int) - 1).toNat * 2]? by rw [show ((out.length : Int) - 1).toNat = out.length - 1 by omega]] at hlast
      generalize (out.getD (out.length - 1) (0, [])).1 = q at *
      generalize ks.getD i 0 = x at hg
      have hw7 := wuf (IntKind.wrap .i64 (x.tdiv 2)) 0 7 (by omega) (by omega) (by omega)
      have hwg := wuf (IntKind.wrap .i64 (x.tdiv 2)) 0 g (by omega) (by omega) (by omega)
      have b7 := wIn (IntKind.wrap .i64 (x.tdiv 2)) 0 7 (by omega)
      have bg := wIn (IntKind.wrap .i64 (x.tdiv 2)) 0 g (by omega)
      generalize wtd (IntKind.wrap .i64 (x.tdiv 2)) 0 7 = j at *
      generalize wtd (IntKind.wrap .i64 (x.tdiv 2)) 0 g = w at *
      generalize hf : IntKind.wrap .i64 ((BitVec.ofInt (IntKind.bits .i64) x &&& BitVec.ofInt (IntKind.bits .i64) 1).toNat : Int) = f
      by_cases h1 : f = 1
      case neg =>
        obtain ⟨L, h, r1, r2, r3⟩ := ih (i + 1) (out ++ [(w, [])]) (by omega) (by simp) (by rw [List.length_append]; simp; omega) (by rw [hok]; unfold okP; rw [if_neg (show ¬ w = -1 by omega), if_neg (show ¬ w < 0 by omega), if_neg (show ¬ g < w by omega)]; rfl)
        refine ⟨L, ?_, r1, r2, r3⟩
        rw [wbq, List.length_append, List.length_singleton] at h
        clear ih hok hr r1 r2 r3 hne
        refine wqb wob ?_
        unfold wrb
        (repeat' (first | (simp -implicitDefEqProofs (maxSteps := 2000000) (disch := first | with_reducible assumption | omega | (simp only [zS, zA, seval, wjc, zD] <;> omega) | fail) only [zS, argl, insA, Go.Den.wh, wz, wmb, looks, wec, wac, idOf, riA, seval, Go.Den.wo, kK, wjb, wxb, wkc, wyc, *, zT]) | (with_reducible (first | apply z1 | apply z2 | apply z3 | apply z4) <;> intro hq <;> (try simp only [zH] at hq) <;> (try (exfalso; omega)))))
        all_goals exact h
      case pos =>
        by_cases h2 : q < 0
        case pos =>
          obtain ⟨L, h, r1, r2, r3⟩ := ih (i + 1) (out ++ [(w, [])]) (by omega) (by simp) (by rw [List.length_append]; simp; omega) (by rw [hok]; unfold okP; rw [if_neg (show ¬ w = -1 by omega), if_neg (show ¬ w < 0 by omega), if_neg (show ¬ g < w by omega)]; rfl)
          refine ⟨L, ?_, r1, r2, r3⟩
          rw [wbq, List.length_append, List.length_singleton] at h
          clear ih hok hr r1 r2 r3 hne
          refine wqb wob ?_
          unfold wrb
          (repeat' (first | (simp -implicitDefEqProofs (maxSteps := 2000000) (disch := first | with_reducible assumption | omega | (simp only [zS, zA, seval, wjc, zD] <;> omega) | fail) only [zS, argl, insA, Go.Den.wh, wz, wmb, looks, wec, wac, idOf, riA, seval, Go.Den.wo, kK, wjb, wxb, wkc, wyc, *, zT]) | (with_reducible (first | apply z1 | apply z2 | apply z3 | apply z4) <;> intro hq <;> (try simp only [zH] at hq) <;> (try (exfalso; omega)))))
          all_goals exact h
        case neg =>
          have hx : ∀ t : List UInt8, t ≠ [] → t.length ≤ 3 → okP g (decide (q = -1)) (-1, t) = true := by
            intro t ht hl
            unfold okP
            rw [if_pos rfl, if_neg ht, if_neg (show ¬ 400 < t.length by omega), decide_eq_false (by omega)]
            rfl
          have hj : j = 0 ∨ j = 1 ∨ j = 2 ∨ j = 3 ∨ j = 4 ∨ j = 5 ∨ j = 6 ∨ j = 7 := by omega
          have hall : ∀ t : List UInt8, t ≠ [] → t.length ≤ 3 → ∃ L : List Pc, lim Try.prog cfg (.loop 44 0 (wic 0) (SE (EJ 64 G0) [(6, .int .i64 (i + 1 : Nat)), (5, FO 1 (out.length + 1) (pcsC out ++ [.int .i64 (-1), str t])), (2, .pointer (some ⟨0, 0, none⟩)), (1, .int .i64 g)])) (HP [X [FL ks.length (ints ks)] 83 0 true, .tok (out.length + 1) 79 2]) = some (.code (.exit 0) (SE (EJ 64 G0) [(5, FO 0 L.length (pcsC L))]), HP [.tok L.length 79 2]) ∧ L ≠ [] ∧ L.length ≤ 5 ∧ woc g false L = true := by
            intro t ht hl3
            have := ih (i + 1) (out ++ [(-1, t)]) (by omega) (by simp) (by rw [List.length_append]; simp; omega) (by rw [hok, hx t ht hl3])
            rw [wbq, List.length_append, List.length_singleton] at this
            exact this
          clear ih hok hr hne hx
          rcases hj with rfl | rfl | rfl | rfl | rfl | rfl | rfl | rfl
          case' inl => obtain ⟨L, h, r1, r2, r3⟩ := hall [120] (by simp) (by simp)
          case' inr.inl => obtain ⟨L, h, r1, r2, r3⟩ := hall [45] (by simp) (by simp)
          case' inr.inr.inl => obtain ⟨L, h, r1, r2, r3⟩ := hall [38] (by simp) (by simp)
          case' inr.inr.inr.inl => obtain ⟨L, h, r1, r2, r3⟩ := hall [47] (by simp) (by simp)
          case' inr.inr.inr.inr.inl => obtain ⟨L, h, r1, r2, r3⟩ := hall [92] (by simp) (by simp)
          case' inr.inr.inr.inr.inr.inl => obtain ⟨L, h, r1, r2, r3⟩ := hall [97, 10, 98] (by simp) (by simp)
          case' inr.inr.inr.inr.inr.inr.inl => obtain ⟨L, h, r1, r2, r3⟩ := hall [49] (by simp) (by simp)
          case' inr.inr.inr.inr.inr.inr.inr => obtain ⟨L, h, r1, r2, r3⟩ := hall [121, 121] (by simp) (by simp)
          all_goals
            refine ⟨L, ?_, r1, r2, r3⟩
            clear hall r1 r2 r3
            refine wqb wob ?_
            unfold wrb
            (repeat' (first | (simp -implicitDefEqProofs (maxSteps := 2000000) (disch := first | with_reducible assumption | omega | (simp only [zS, zA, seval, wjc, zD] <;> omega) | fail) only [zS, argl, insA, Go.Den.wh, wz, wmb, looks, wec, wac, idOf, riA, seval, Go.Den.wo, kK, wjb, wxb, wkc, wyc, *, zT]) | (with_reducible (first | apply z1 | apply z2 | apply z3 | apply z4) <;> intro hq <;> (try simp only [zH] at hq) <;> (try (exfalso; omega)))))
            all_goals exact h
def tpO (L : List Pc) : Value := if L = [] then .slice none 0 0 else FO 0 L.length (pcsC L)
def tpH (L : List Pc) : List ABlk := if L = [] then [] else [.tok L.length 79 2]
theorem wxtb {g : Int} : ∀ (l : List Pc) (b : Bool), woc g b l = true → ∀ p ∈ l, p.2.length ≤ 400 := by
  intro l
  induction l with
  | nil => intro b _ p hp; cases hp
  | cons q l ih =>
    intro b h p hp
    rw [woc, Bool.and_eq_true] at h
    rcases List.mem_cons.1 hp with rfl | hp
    · have h1 := h.1
      unfold okP at h1
      by_cases e : p.1 = -1
      · rw [if_pos e] at h1
        by_cases e1 : p.2 = []
        · rw [e1]; exact Nat.zero_le _
        · rw [if_neg e1] at h1
          by_cases e2 : 400 < p.2.length
          · rw [if_pos e2] at h1; cases h1
          · omega
      · rw [if_neg e] at h1
        by_cases e2 : p.1 < 0
        · rw [if_pos e2] at h1; cases h1
        · rw [if_neg e2] at h1
          by_cases e3 : g < p.1
          · rw [if_pos e3] at h1; cases h1
          · rw [if_neg e3] at h1
            rw [of_decide_eq_true h1]; exact Nat.zero_le _
    · exact ih _ h.2 p hp
set_option maxHeartbeats 4000000 in
theorem wytb (ks : List Int) (g : Int) (h0 : 0 ≤ g) (h3 : g ≤ 3) :
    ∃ L : List Pc, lim Try.prog cfg (.loop 44 0 (wic 0) (SE (EJ 64 G0) [(6, .int .i64 0), (5, .slice none 0 0), (2, .pointer (some ⟨0, 0, none⟩)), (1, .int .i64 g)])) (HP [X [FL ks.length (ints ks)] 83 0 true]) = some (.code (.exit 0) (SE (EJ 64 G0) [(5, tpO L)]), HP (tpH L)) ∧ L.length ≤ 5 ∧ woc g false L = true := by
  by_cases hk : 0 < ks.length
  case neg =>
    refine ⟨[], ?_, Nat.zero_le _, rfl⟩
    rw [show tpO [] = .slice none 0 0 from rfl, show tpH [] = [] from rfl]
    refine wqb wob ?_
    unfold wrb
    (repeat' (first | (simp -implicitDefEqProofs (maxSteps := 2000000) (disch := first | with_reducible assumption | omega | (simp only [zS, zA, seval, wjc, zD] <;> omega) | fail) only [zS, argl, insA, Go.Den.wh, wz, wmb, looks, wec, wac, idOf, riA, seval, Go.Den.wo, kK, wjb, wxb, wkc, wyc, *, zT]) | (with_reducible (first | apply z1 | apply z2 | apply z3 | apply z4) <;> intro hq <;> (try simp only [zH] at hq) <;> (try (exfalso; omega)))))
  case pos =>
    have hg := waq (l := ks) (i := 0) hk
    generalize ks.getD 0 0 = x at hg
    have hw7 := wuf (IntKind.wrap .i64 (x.tdiv 2)) 0 7 (by omega) (by omega) (by omega)
    have hwg := wuf (IntKind.wrap .i64 (x.tdiv 2)) 0 g (by omega) (by omega) (by omega)
    have b7 := wIn (IntKind.wrap .i64 (x.tdiv 2)) 0 7 (by omega)
    have bg := wIn (IntKind.wrap .i64 (x.tdiv 2)) 0 g (by omega)
    generalize wtd (IntKind.wrap .i64 (x.tdiv 2)) 0 7 = j at *
    generalize wtd (IntKind.wrap .i64 (x.tdiv 2)) 0 g = w at *
    generalize hf : IntKind.wrap .i64 ((BitVec.ofInt (IntKind.bits .i64) x &&& BitVec.ofInt (IntKind.bits .i64) 1).toNat : Int) = f
    have he : ∀ L : List Pc, L ≠ [] → tpO L = FO 0 L.length (pcsC L) ∧ tpH L = [.tok L.length 79 2] := by
      intro L h
      unfold tpO tpH
      rw [if_neg h, if_neg h]
      exact ⟨rfl, rfl⟩
    by_cases h1 : f = 1
    case neg =>
      obtain ⟨L, h, r1, r2, r3⟩ := wwz ks g h0 h3 4 1 [(w, [])] rfl (by simp) (by simp) (by unfold woc okP; rw [if_neg (show ¬ w = -1 by omega), if_neg (show ¬ w < 0 by omega), if_neg (show ¬ g < w by omega)]; rfl)
      refine ⟨L, ?_, r2, r3⟩
      rw [(he L r1).1, (he L r1).2]
      rw [show ([(w, ([] : List UInt8))] : List Pc).length = 1 from rfl, show pcsC [(w, [])] = [.int .i64 w, str []] from rfl, show ((1 : Nat) : Int) = 1 from rfl] at h
      clear he r1 r2 r3
      refine wqb wob ?_
      unfold wrb
      (repeat' (first | (simp -implicitDefEqProofs (maxSteps := 2000000) (disch := first | with_reducible assumption | omega | (simp only [zS, zA, seval, wjc, zD] <;> omega) | fail) only [zS, argl, insA, Go.Den.wh, wz, wmb, looks, wec, wac, idOf, riA, seval, Go.Den.wo, kK, wjb, wxb, wkc, wyc, *, zT]) | (with_reducible (first | apply z1 | apply z2 | apply z3 | apply z4) <;> intro hq <;> (try simp only [zH] at hq) <;> (try (exfalso; omega)))))
      all_goals exact h
    case pos =>
      have hj : j = 0 ∨ j = 1 ∨ j = 2 ∨ j = 3 ∨ j = 4 ∨ j = 5 ∨ j = 6 ∨ j = 7 := by omega
      have hall : ∀ t : List UInt8, t ≠ [] → t.length ≤ 3 → ∃ L : List Pc, lim Try.prog cfg (.loop 44 0 (wic 0) (SE (EJ 64 G0) [(6, .int .i64 1), (5, FO 1 1 [.int .i64 (-1), str t]), (2, .pointer (some ⟨0, 0, none⟩)), (1, .int .i64 g)])) (HP [X [FL ks.length (ints ks)] 83 0 true, .tok 1 79 2]) = some (.code (.exit 0) (SE (EJ 64 G0) [(5, FO 0 L.length (pcsC L))]), HP [.tok L.length 79 2]) ∧ L ≠ [] ∧ L.length ≤ 5 ∧ woc g false L = true := by
        intro t ht hl3
        exact wwz ks g h0 h3 4 1 [(-1, t)] rfl (by simp) (by simp) (by unfold woc okP; rw [if_pos rfl, if_neg ht, if_neg (show ¬ 400 < t.length by omega)]; rfl)
      rcases hj with rfl | rfl | rfl | rfl | rfl | rfl | rfl | rfl
      case' inl => obtain ⟨L, h, r1, r2, r3⟩ := hall [120] (by simp) (by simp)
      case' inr.inl => obtain ⟨L, h, r1, r2, r3⟩ := hall [45] (by simp) (by simp)
      case' inr.inr.inl => obtain ⟨L, h, r1, r2, r3⟩ := hall [38] (by simp) (by simp)
      case' inr.inr.inr.inl => obtain ⟨L, h, r1, r2, r3⟩ := hall [47] (by simp) (by simp)
      case' inr.inr.inr.inr.inl => obtain ⟨L, h, r1, r2, r3⟩ := hall [92] (by simp) (by simp)
      case' inr.inr.inr.inr.inr.inl => obtain ⟨L, h, r1, r2, r3⟩ := hall [97, 10, 98] (by simp) (by simp)
      case' inr.inr.inr.inr.inr.inr.inl => obtain ⟨L, h, r1, r2, r3⟩ := hall [49] (by simp) (by simp)
      case' inr.inr.inr.inr.inr.inr.inr => obtain ⟨L, h, r1, r2, r3⟩ := hall [121, 121] (by simp) (by simp)
      all_goals
        refine ⟨L, ?_, r2, r3⟩
        rw [(he L r1).1, (he L r1).2]
        clear hall he r1 r2 r3
        refine wqb wob ?_
        unfold wrb
        (repeat' (first | (simp -implicitDefEqProofs (maxSteps := 2000000) (disch := first | with_reducible assumption | omega | (simp only [zS, zA, seval, wjc, zD] <;> omega) | fail) only [zS, argl, insA, Go.Den.wh, wz, wmb, looks, wec, wac, idOf, riA, seval, Go.Den.wo, kK, wjb, wxb, wkc, wyc, *, zT]) | (with_reducible (first | apply z1 | apply z2 | apply z3 | apply z4) <;> intro hq <;> (try simp only [zH] at hq) <;> (try (exfalso; omega)))))
        all_goals exact h
theorem ev_Tpl (ks : List Int) (g : Int) (h0 : 0 ≤ g) (h3 : g ≤ 3) : ∃ L : List Pc, lim Try.prog cfg (.call 44 [.agg ⟨[FL ks.length (ints ks)]⟩, .int .i64 g]) (HP []) = some (.val (FL L.length (pcsC L)), HP []) ∧ L.length ≤ 5 ∧ woc g false L = true := by
  obtain ⟨L, h, r1, r2⟩ := wytb ks g h0 h3
  refine ⟨L, ?_, r1, r2⟩
  clear r2
  refine wcd hc wjj (Nat.le_of_ble_eq_true rfl) (Nat.le_of_ble_eq_true rfl) ?_
  unfold wug
  by_cases hL : L = []
  · subst hL
    rw [show tpO [] = .slice none 0 0 from rfl, show tpH [] = [] from rfl] at h
    rw [show ([] : List Pc).length = 0 from rfl, show pcsC [] = [] from rfl]
    (repeat' (first | (simp -implicitDefEqProofs (maxSteps := 2000000) (disch := first | with_reducible assumption | omega | (simp only [zS, zA, seval, wjc, zD] <;> omega) | fail) only [zS, argl, insA, Go.Den.wh, wz, wmb, looks, wec, wac, idOf, riA, seval, Go.Den.wo, kK, wjb, wxb, wkc, wyc, *, zT]) | (with_reducible (first | apply z1 | apply z2 | apply z3 | apply z4) <;> intro hq <;> (try simp only [zH] at hq) <;> (try (exfalso; omega)))))
  · unfold tpO tpH at h
    rw [if_neg hL, if_neg hL] at h
    have hlen : (pcsC L).length = L.length * 2 := wgi
    clear hL
    (repeat' (first | (simp -implicitDefEqProofs (maxSteps := 2000000) (disch := first | with_reducible assumption | omega | (simp only [zS, zA, seval, wjc, zD] <;> omega) | fail) only [zS, argl, insA, Go.Den.wh, wz, wmb, looks, wec, wac, idOf, riA, seval, Go.Den.wo, kK, wjb, wxb, wkc, wyc, *, zT]) | (with_reducible (first | apply z1 | apply z2 | apply z3 | apply z4) <;> intro hq <;> (try simp only [zH] at hq) <;> (try (exfalso; omega)))))
end
end Go.Proofs.Ytdbhfmdndiphcaa
namespace Go.Den
noncomputable section
section
variable {len : Nat} {s : List UInt8} {bol : Bool} {Q : St → Prop}
end
end
end Go.Den
namespace Go.Proofs.Ytdbhfmdndiphcaa
open Go.Den
noncomputable section
def SpOk (m : Mt) : Prop := ∀ g : Nat, 1 ≤ g → g ≤ 3 → 0 ≤ m.at (g * 2) → m.at 0 ≤ m.at (g * 2) ∧ m.at (g * 2 + 1) ≤ m.at 1
def BehF (r : Rx) (s : List UInt8) (p m : Mt) : Prop :=
  p.at 1 ≤ m.at 0 ∧ ¬ (m.at 0 = m.at 1 ∧ m.at 0 = p.at 1) ∧ ∃ x, firstR r s (p.at 1) = some x ∧ 0 ≤ x.at 0 ∧ x.at 0 ≤ m.at 0 ∧ (x.at 0 = m.at 0 ∨ x.at 0 = x.at 1)
structure MtOk (r : Rx) (s : List UInt8) (prev : Option Mt) (m : Mt) : Prop where
  lo : 0 ≤ m.at 0
  le : m.at 0 ≤ m.at 1
  hi : m.at 1 ≤ s.length
  sp : SpOk m
  fst : prev = none → firstR r s 0 = some m
  beh : ∀ p, prev = some p → BehF r s p m
end
end Go.Proofs.Ytdbhfmdndiphcaa
namespace Go.Proofs.Ytdbhfmdndiphcaa
set_option linter.unusedVariables false
set_option linter.unusedSimpArgs false
open Go.Den
noncomputable section
abbrev stP0 : Value := .pointer (some ⟨0, 0, none⟩)
def slG (size n : Nat) (cs : List Value) : Option Nat → Option Nat → ARes
  | some l, some h => bif Nat.ble l h && (Nat.ble h n && Nat.beq (n * size) cs.length) then (bif Nat.beq l h then val (FL 0 []) else val (FL (h - l) (slotsOf cs (l * size) ((h - l) * size)))) else .none
  | _, _ => .none
theorem wudb {e : Env} {H : AH} {size n : Nat} {cs : List Value} {x : Operand} : slSR e H size (FL n cs) (some x) none none = slG size n cs (wcf (evl e x)) (some n) := by
  show (match wcf (evl e x), some n with
    | some l, some h => slF2 size (n, cs) e none none l h
    | _, _ => .none) = _
  cases wcf (evl e x) <;> rfl
theorem wvdb {e : Env} {H : AH} {size n : Nat} {cs : List Value} {y : Operand} : slSR e H size (FL n cs) none (some y) none = slG size n cs (some 0) (wcf (evl e y)) := by
  show (match some 0, wcf (evl e y) with
    | some l, some h => slF2 size (n, cs) e (some y) none l h
    | _, _ => .none) = _
  cases wcf (evl e y) <;> rfl
theorem slG_some {size n l h : Nat} {cs : List Value} (h1 : l < h) (h2 : h ≤ n) (h3 : n * size = cs.length) : slG size n cs (some l) (some h) = val (FL (h - l) (slotsOf cs (l * size) ((h - l) * size))) := by
  show (bif Nat.ble l h && (Nat.ble h n && Nat.beq (n * size) cs.length) then (bif Nat.beq l h then val (FL 0 []) else _) else .none) = _
  rw [nble, nble, nbeq, nbeq, decide_eq_true (Nat.le_of_lt h1), decide_eq_true h2, decide_eq_true h3, decide_eq_false (by omega)]
  rfl
end
end Go.Proofs.Ytdbhfmdndiphcaa
namespace Go.Proofs.Ytdbhfmdndiphcaa
set_option linter.unusedVariables false
set_option linter.unusedSimpArgs false
open Go.Den
noncomputable section
def elems1 : Option ABlk → Option (List Value)
  | some (.cells b) => (match (bif rdOk b 0 1 then some b else none) with
    | some b => some (slotsOf b.cells 0 1)
    | none => none)
  | _ => none
def b2s1 (o : Option ABlk) : ARes := match elems1 o with
  | some l => bif l.all isU8 then val (.string ⟨(l.map toU8).toArray⟩) else .none
  | none => .none
theorem b2s_HP {h : List ABlk} (hh : h.length ≤ 1099511627774) {i c : Nat} : b2sR (HP h) (.slice (some ⟨i, 0, none⟩) 1 c) = b2s1 h[i]? := by
  have h2 : wzf (HP h) 1 1 (.slice (some ⟨i, 0, none⟩) 1 c) = elems1 h[i]? := by
    show (match woe (HP h) ⟨i, 0, none⟩ 1 with
      | some b => some (slotsOf b.cells 0 1)
      | none => none) = _
    unfold woe
    rw [wof h hh]
    cases h[i]? with
    | none => rfl
    | some b => cases b <;> rfl
  show (match wzf (HP h) 1 1 (.slice (some ⟨i, 0, none⟩) 1 c) with
    | some l => bif l.all isU8 then val (.string ⟨(l.map toU8).toArray⟩) else .none
    | none => .none) = _
  rw [h2]
  rfl
theorem b2s_X {x : Nat} {t z : Nat} {pf : Bool} (hx : x < 256) : b2s1 (some (X [.int .u8 (x : Nat)] t z pf)) = val (str [UInt8.ofNat x]) := by
  show (bif (Nat.blt x 256 && true) then val (.string ⟨#[UInt8.ofNat x]⟩) else .none) = _
  rw [nblt, decide_eq_true hx]
  rfl
def tb (k : Nat) : Nat := [97, 98, 97, 99, 98, 46, 97, 32].getD k 0
theorem tb_get {k : Nat} (h : k < 8) : ([.int .u8 97, .int .u8 98, .int .u8 97, .int .u8 99, .int .u8 98, .int .u8 46, .int .u8 97, .int .u8 32] : List Value)[k]? = some (.int .u8 (tb k)) := by
  rcases (show k = 0 ∨ k = 1 ∨ k = 2 ∨ k = 3 ∨ k = 4 ∨ k = 5 ∨ k = 6 ∨ k = 7 by omega) with rfl | rfl | rfl | rfl | rfl | rfl | rfl | rfl <;> rfl
theorem tb_lt (k : Nat) : tb k < 256 := by
  unfold tb
  rw [List.getD_eq_getElem?_getD]
  by_cases h : k < 8
  · rcases (show k = 0 ∨ k = 1 ∨ k = 2 ∨ k = 3 ∨ k = 4 ∨ k = 5 ∨ k = 6 ∨ k = 7 by omega) with rfl | rfl | rfl | rfl | rfl | rfl | rfl | rfl <;> decide
  · rw [List.getElem?_eq_none (by simp; omega)]; decide
def wztb (n : Int) : UInt8 := UInt8.ofNat (tb (wtd n 0 7).toNat)
def wwdb (l : List Int) (most : Nat) : List UInt8 := (l.take most).map wztb
theorem wxdb (n : Int) : 0 ≤ wtd n 0 7 ∧ wtd n 0 7 ≤ 7 := by
  unfold wtd
  have := Int.emod_nonneg n (show (8 : Int) ≠ 0 by omega)
  have h5 := Int.emod_lt_of_pos n (show (0 : Int) < 8 by omega)
  rw [show (7 : Int) - 0 + 1 = 8 from rfl, Int.tmod_eq_emod]
  repeat' split
  all_goals omega
theorem waub (l : List Int) (most : Nat) (hm : most ≤ 1000) : ∀ (k i : Nat) (acc : List UInt8), i + k = min l.length most → acc.length ≤ i →
    lim Try.prog cfg (.loop 26 0 (wqe 0) (SE (EJ 31 G0) [(6, .int .i64 i), (5, str acc), (1, .int .i64 most), (0, FL l.length (ints l))])) (HP []) = some (.code (.exit 0) (SE (EJ 31 G0) [(5, str (acc ++ ((l.take most).drop i).map wztb))]), HP []) := by
  intro k
  induction k with
  | zero =>
    intro i acc hi ha
    rw [List.drop_of_length_le (by rw [List.length_take]; omega), List.map_nil, List.append_nil]
    refine wqb wbg ?_
    unfold wef
    by_cases h1 : (i : Int) < l.length
    · have h2 : ¬ (i : Int) < most := by omega
      (repeat' (first | (simp -implicitDefEqProofs (maxSteps := 2000000) (disch := first | with_reducible assumption | omega | (simp only [zS, zA, seval] <;> omega) | fail) only [zS, argl, insA, Go.Den.wh, wz, wmb, looks, wec, wac, idOf, riA, seval, Go.Den.wo, kK, wbe, wyc, wxb, wkc, *]) | (with_reducible (first | apply z1 | apply z2 | apply z3 | apply z4) <;> intro hq <;> (try simp only [zH] at hq) <;> (try (exfalso; omega)))))
    · (repeat' (first | (simp -implicitDefEqProofs (maxSteps := 2000000) (disch := first | with_reducible assumption | omega | (simp only [zS, zA, seval] <;> omega) | fail) only [zS, argl, insA, Go.Den.wh, wz, wmb, looks, wec, wac, idOf, riA, seval, Go.Den.wo, kK, wbe, wyc, wxb, wkc, *]) | (with_reducible (first | apply z1 | apply z2 | apply z3 | apply z4) <;> intro hq <;> (try simp only [zH] at hq) <;> (try (exfalso; omega)))))
  | succ k ih =>
    intro i acc hi ha
    have hlt : i < (l.take most).length := by rw [List.length_take]; omega
    rw [List.drop_eq_getElem_cons hlt, List.map_cons]
    have hg := waq (l := l) (i := i) (by omega)
    have hv : (l.take most)[i] = l.getD i 0 := by rw [List.getElem_take, List.getD_eq_getElem?_getD, List.getElem?_eq_getElem (by omega)]; rfl
    rw [hv]
    have hw := wuf (l.getD i 0) 0 7 (by omega) (by omega) (by omega)
    have hin := wxdb (l.getD i 0)
    have htb := tb_get (k := (wtd (l.getD i 0) 0 7).toNat) (by omega)
    have hlt2 := tb_lt (wtd (l.getD i 0) 0 7).toNat
    have h1 : (i : Int) < l.length := by omega
    have h2 : (i : Int) < most := by omega
    · have h := ih (i + 1) (acc ++ [wztb (l.getD i 0)]) (by omega) (by simp; omega)
      rw [List.append_assoc, List.singleton_append] at h
      clear ih hv hlt
      unfold wztb at h ⊢
      generalize wtd (l.getD i 0) 0 7 = w at *
      generalize tb w.toNat = c at *
      refine wqb wbg ?_
      unfold wef
      (repeat' (first | (simp -implicitDefEqProofs (maxSteps := 2000000) (disch := first | with_reducible assumption | omega | (simp only [zS, zA, seval] <;> omega) | fail) only [zS, argl, insA, Go.Den.wh, wz, wmb, looks, wec, wac, idOf, riA, seval, Go.Den.wo, kK, wbe, wyc, wxb, wkc, b2s_HP, b2s_X, *]) | (with_reducible (first | apply z1 | apply z2 | apply z3 | apply z4) <;> intro hq <;> (try simp only [zH] at hq) <;> (try (exfalso; omega)))))
      exact h
theorem wbub (l : List Int) (most : Nat) (hm : most ≤ 1000) : lim Try.prog cfg (.call 26 [FL l.length (ints l), .int .i64 most]) (HP []) = some (.val (str (wwdb l most)), HP []) := by
  have h := waub l most hm (min l.length most) 0 [] (by omega) (by simp)
  rw [List.drop_zero, List.nil_append, show ((0 : Nat) : Int) = 0 from rfl] at h
  refine wcd hc wol (Nat.le_of_ble_eq_true rfl) (Nat.le_of_ble_eq_true rfl) ?_
  unfold wpi
  show _ = some (Out.val (str ((l.take most).map wztb)), HP [])
  (repeat' (first | (simp -implicitDefEqProofs (maxSteps := 2000000) (disch := first | with_reducible assumption | omega | (simp only [zS, zA, seval] <;> omega) | fail) only [zS, argl, insA, Go.Den.wh, wz, wmb, looks, wec, wac, idOf, riA, seval, Go.Den.wo, kK, wbe, wyc, *]) | (with_reducible (first | apply z1 | apply z2 | apply z3 | apply z4) <;> intro hq <;> (try simp only [zH] at hq) <;> (try (exfalso; omega)))))
end
end Go.Proofs.Ytdbhfmdndiphcaa
namespace Go.Proofs.Ytdbhfmdndiphcaa
set_option linter.unusedVariables false
set_option linter.unusedSimpArgs false
open Go.Den
noncomputable section
def wqi : Int → List Pc → Int
  | h, [] => h
  | h, p :: l => wqi (max h p.1) l
theorem wcub : ∀ (l : List Pc) (h : Int), h ≤ wqi h l := by
  intro l
  induction l with
  | nil => intro h; exact Int.le_refl _
  | cons p l ih => intro h; rw [wqi]; have := ih (max h p.1); omega
theorem high_mem : ∀ (l : List Pc) (h : Int), ∀ p ∈ l, p.1 ≤ wqi h l := by
  intro l
  induction l with
  | nil => intro h p hp; cases hp
  | cons q l ih =>
    intro h p hp
    rw [wqi]
    rcases List.mem_cons.1 hp with rfl | hp
    · have := wcub l (max h p.1); omega
    · exact ih _ p hp
theorem wdub : ∀ (l : List Pc) (h : Int), wqi h l = h ∨ ∃ p ∈ l, p.1 = wqi h l := by
  intro l
  induction l with
  | nil => intro h; exact .inl rfl
  | cons q l ih =>
    intro h
    rw [wqi]
    rcases ih (max h q.1) with e | ⟨p, hp, e⟩
    · rw [e]
      by_cases hq : h < q.1
      · exact .inr ⟨q, List.mem_cons_self, by omega⟩
      · exact .inl (by omega)
    · exact .inr ⟨p, List.mem_cons_of_mem _ hp, e⟩
theorem right_ge {g : Int} : ∀ (l : List Pc) (b : Bool), woc g b l = true → ∀ p ∈ l, -1 ≤ p.1 := by
  intro l
  induction l with
  | nil => intro b _ p hp; cases hp
  | cons q l ih =>
    intro b h p hp
    rw [woc, Bool.and_eq_true] at h
    rcases List.mem_cons.1 hp with rfl | hp
    · have h1 := h.1
      unfold okP at h1
      by_cases e : p.1 = -1
      · omega
      · rw [if_neg e] at h1
        by_cases e2 : p.1 < 0
        · rw [if_pos e2] at h1; cases h1
        · omega
    · exact ih _ h.2 p hp
theorem weub {g : Int} (hg : 0 ≤ g) : ∀ (l : List Pc) (b : Bool), woc g b l = true → ∀ p ∈ l, p.1 ≤ g := by
  intro l
  induction l with
  | nil => intro b _ p hp; cases hp
  | cons q l ih =>
    intro b h p hp
    rw [woc, Bool.and_eq_true] at h
    rcases List.mem_cons.1 hp with rfl | hp
    · have h1 := h.1
      unfold okP at h1
      by_cases e : p.1 = -1
      · omega
      · rw [if_neg e] at h1
        by_cases e2 : p.1 < 0
        · omega
        · rw [if_neg e2] at h1
          by_cases e3 : g < p.1
          · rw [if_pos e3] at h1; cases h1
          · omega
    · exact ih _ h.2 p hp
theorem ok_high {g g' : Int} {b : Bool} {p : Pc} (h : okP g b p = true) (hp : p.1 ≤ g') : okP g' b p = true := by
  unfold okP at h ⊢
  by_cases e : p.1 = -1
  · rw [if_pos e] at h ⊢; exact h
  · rw [if_neg e] at h ⊢
    by_cases e2 : p.1 < 0
    · rw [if_pos e2] at h; cases h
    · rw [if_neg e2] at h ⊢
      by_cases e3 : g < p.1
      · rw [if_pos e3] at h; cases h
      · rw [if_neg e3] at h; rw [if_neg (by omega)]; exact h
theorem wskb {g g' : Int} : ∀ (l : List Pc) (b : Bool), woc g b l = true → (∀ p ∈ l, p.1 ≤ g') → woc g' b l = true := by
  intro l
  induction l with
  | nil => intro b _ _; rfl
  | cons q l ih =>
    intro b h hp
    rw [woc, Bool.and_eq_true] at h ⊢
    exact ⟨ok_high h.1 (hp q List.mem_cons_self), ih _ h.2 fun p h => hp p (List.mem_cons_of_mem _ h)⟩
theorem wfub {g : Int} (hg : 0 ≤ g) : ∀ (l : List Pc) (b : Bool), (∃ p ∈ l, p.1 = g + 1) → woc g b l = false := by
  intro l
  induction l with
  | nil => intro b ⟨p, hp, _⟩; cases hp
  | cons q l ih =>
    intro b ⟨p, hp, e⟩
    rw [woc]
    rcases List.mem_cons.1 hp with rfl | hp
    · have : okP g b p = false := by
        unfold okP
        rw [if_neg (by omega), if_neg (by omega), if_pos (by omega)]
      rw [this, Bool.false_and]
    · rw [ih _ ⟨p, hp, e⟩, Bool.and_false]
theorem wgub {g : Int} (l : List Pc) : woc g false (l ++ [(-1, [])]) = false := by
  rw [wzt, show okP g (wvz false l) (-1, []) = false from rfl, Bool.and_false]
theorem fill_cut (m : Mt) (s : List UInt8) (l : List Pc) (c : Nat) : wlf m s (l.take c) ++ wlf m s (l.drop c) = wlf m s l := by
  unfold wlf
  rw [← List.flatMap_append, List.take_append_drop]
abbrev mtH (m : Mt) : ABlk := X (mtC m) 55 0 true
set_option maxHeartbeats 4000000 in
theorem whub (sp : List Int) (L : List Pc) (s : List UInt8) (hs : s.length ≤ 1000) (c : Int) : ∀ (k i : Nat) (m : Mt), i + k = 4 →
    ∃ m' : Mt, lim Try.prog cfg (.loop 13 0 (wfb 0) (SE (EJ 160 G0) [(26, .int .i64 i), (11, stP0), (10, FL L.length (pcsC L)), (9, str s), (3, .int .i64 c), (2, FL sp.length (ints sp))])) (HP [mtH m]) = some (.code (.exit 0) (SE (EJ 160 G0) [(11, stP0), (10, FL L.length (pcsC L)), (9, str s), (3, .int .i64 c)]), HP [mtH m']) := by
  intro k
  induction k with
  | zero =>
    intro i m hi
    refine ⟨m, ?_⟩
    refine wqb wxc ?_
    unfold wqc
    (repeat' (first | (simp -implicitDefEqProofs (maxSteps := 2000000) (disch := first | with_reducible assumption | omega | (simp only [zS, zA, seval, wvj, wjc, zD] <;> omega) | fail) only [zS, argl, insA, Go.Den.wh, wz, wmb, looks, wec, wac, idOf, riA, seval, Go.Den.wo, kK, wbc, wyc, *, zT]) | (with_reducible (first | apply z1 | apply z2 | apply z3 | apply z4) <;> intro hq <;> (try simp only [zH] at hq) <;> (try (exfalso; omega)))))
  | succ k ih =>
    intro i m hi
    by_cases hk : i < sp.length
    case neg =>
      obtain ⟨m', h⟩ := ih (i + 1) ((m.put (i * 2) (-1)).put (i * 2 + 1) (-1)) (by omega)
      refine ⟨m', ?_⟩
      clear ih
      refine wqb wxc ?_
      unfold wqc
      (repeat' (first | (simp -implicitDefEqProofs (maxSteps := 2000000) (disch := first | with_reducible assumption | omega | (simp only [zS, zA, seval, wvj, wjc, zD] <;> omega) | fail) only [zS, argl, insA, Go.Den.wh, wz, wmb, looks, wec, wac, idOf, riA, seval, Go.Den.wo, kK, wbc, wxb, wkc, wyc, *, zT]) | (with_reducible (first | apply z1 | apply z2 | apply z3 | apply z4) <;> intro hq <;> (try simp only [zH] at hq) <;> (try (exfalso; omega)))))
      all_goals exact h
    case pos =>
      have hg := waq (l := sp) (i := i) hk
      generalize sp.getD i 0 = x at hg
      have hwa := wuf x 0 s.length (by omega) (by omega) (by omega)
      have ba := wIn x 0 s.length (by omega)
      generalize wtd x 0 s.length = a at *
      have hwb := wuf (IntKind.wrap .i64 (x.tdiv 8)) a s.length (by omega) (by omega) (by omega)
      have bb := wIn (IntKind.wrap .i64 (x.tdiv 8)) a s.length (by omega)
      generalize wtd (IntKind.wrap .i64 (x.tdiv 8)) a s.length = b at *
      generalize hf : IntKind.wrap .i64 ((BitVec.ofInt (IntKind.bits .i64) x &&& BitVec.ofInt (IntKind.bits .i64) 1).toNat : Int) = f
      by_cases h1 : f = 1
      case neg =>
        obtain ⟨m', h⟩ := ih (i + 1) ((m.put (i * 2) (-1)).put (i * 2 + 1) (-1)) (by omega)
        refine ⟨m', ?_⟩
        clear ih
        refine wqb wxc ?_
        unfold wqc
        (repeat' (first | (simp -implicitDefEqProofs (maxSteps := 2000000) (disch := first | with_reducible assumption | omega | (simp only [zS, zA, seval, wvj, wjc, zD] <;> omega) | fail) only [zS, argl, insA, Go.Den.wh, wz, wmb, looks, wec, wac, idOf, riA, seval, Go.Den.wo, kK, wbc, wxb, wkc, wyc, *, zT]) | (with_reducible (first | apply z1 | apply z2 | apply z3 | apply z4) <;> intro hq <;> (try simp only [zH] at hq) <;> (try (exfalso; omega)))))
        all_goals exact h
      case pos =>
        obtain ⟨m', h⟩ := ih (i + 1) ((((m.put (i * 2) (-1)).put (i * 2 + 1) (-1)).put (i * 2) a).put (i * 2 + 1) b) (by omega)
        refine ⟨m', ?_⟩
        clear ih
        refine wqb wxc ?_
        unfold wqc
        (repeat' (first | (simp -implicitDefEqProofs (maxSteps := 2000000) (disch := first | with_reducible assumption | omega | (simp only [zS, zA, seval, wvj, wjc, zD] <;> omega) | fail) only [zS, argl, insA, Go.Den.wh, wz, wmb, looks, wec, wac, idOf, riA, seval, Go.Den.wo, kK, wbc, wxb, wkc, wyc, *, zT]) | (with_reducible (first | apply z1 | apply z2 | apply z3 | apply z4) <;> intro hq <;> (try simp only [zH] at hq) <;> (try (exfalso; omega)))))
        all_goals exact h
set_option maxHeartbeats 4000000 in
theorem wiub (m : Mt) (L : List Pc) (hL : L.length ≤ 5) (hp : ∀ p ∈ L, p.2.length ≤ 1000 ∧ -1 ≤ p.1) (s : List UInt8) (hs : s.length ≤ 1000) (c : Int) : ∀ (k i : Nat) (w : List UInt8), i + k = L.length → w.length ≤ i * 1000 →
    lim Try.prog cfg (.loop 13 0 (wfb 1) (SE (EJ 160 G0) [(71, .int .i64 i), (70, .int .i64 L.length), (69, FL L.length (pcsC L)), (15, str w), (14, .int .i64 c), (11, stP0), (10, FL L.length (pcsC L)), (9, str s)])) (HP [mtH m]) = some (.code (.exit 2) (SE (EJ 160 G0) [(15, str (w ++ wlf m s (L.drop i))), (14, .int .i64 c), (11, stP0), (10, FL L.length (pcsC L)), (9, str s)]), HP [mtH m]) := by
  intro k
  induction k with
  | zero =>
    intro i w hi hw
    clear hp
    rw [List.drop_of_length_le (by omega), wlf, List.flatMap_nil, List.append_nil]
    refine wqb wwe ?_
    unfold wee
    (repeat' (first | (simp -implicitDefEqProofs (maxSteps := 2000000) (disch := first | with_reducible assumption | omega | (simp only [zS, zA, seval, wvj, wjc, zD] <;> omega) | fail) only [zS, argl, insA, Go.Den.wh, wz, wmb, looks, wec, wac, idOf, riA, seval, Go.Den.wo, kK, wrc, *, zT]) | (with_reducible (first | apply z1 | apply z2 | apply z3 | apply z4) <;> intro hq <;> (try simp only [zH] at hq) <;> (try (exfalso; omega)))))
  | succ k ih =>
    intro i w hi hw
    have hlt : i < L.length := by omega
    obtain ⟨hp1, hp2⟩ := hp _ (wlw hlt)
    have hpl := wao (m := m) hs hp1
    rw [wbo hlt, wlf, List.flatMap_cons]
    have hg := wjw m s (L.getD i (0, [])).1
    have hq : (if (L.getD i (0, [])).1 = -1 then (L.getD i (0, [])).2 else wgp m s (L.getD i (0, [])).1) = wci m s (L.getD i (0, [])) := rfl
    generalize wci m s (L.getD i (0, [])) = p at *
    have hlen : (pcsC L).length = L.length * 2 := wgi
    have hle : i * 2 + 2 ≤ (pcsC L).length := by omega
    have h := ih (i + 1) (w ++ p) (by omega) (by rw [List.length_append]; omega)
    rw [← List.append_assoc]
    unfold wlf at h
    generalize w ++ p ++ List.flatMap (wci m s) (L.drop (i + 1)) = R at h ⊢
    clear ih hp
    by_cases h1 : (L.getD i (0, [])).1 = -1
    case' pos =>
      rw [if_pos h1] at hq
      have h1n : (L.getD i (0, [])).1 < 0 := by omega
    case' neg =>
      rw [if_neg h1] at hq
      have h1n : ¬ (L.getD i (0, [])).1 < 0 := by omega
    all_goals
      clear h1
      refine wqb wwe ?_
      unfold wee
      (repeat' (first | (simp -implicitDefEqProofs (maxSteps := 2000000) (disch := first | with_reducible assumption | omega | (simp only [zS, zA, seval, wvj, wjc, zD] <;> omega) | fail) only [zS, argl, insA, Go.Den.wh, wz, wmb, looks, wec, wac, idOf, riA, seval, Go.Den.wo, kK, wrc, wll, *, zT]) | (with_reducible (first | apply z1 | apply z2 | apply z3 | apply z4) <;> intro hq <;> (try simp only [zH] at hq) <;> (try (exfalso; omega)))))
      all_goals exact h
set_option maxHeartbeats 4000000 in
theorem wjub (m : Mt) (L : List Pc) (hL : L.length ≤ 5) (s w : List UInt8) (c : Int) : ∀ (k i : Nat) (g : Int), i + k = L.length →
    lim Try.prog cfg (.loop 13 0 (wfb 2) (SE (EJ 160 G0) [(92, .int .i64 i), (91, .int .i64 L.length), (90, FL L.length (pcsC L)), (18, .int .i64 g), (15, str w), (14, .int .i64 c), (11, stP0), (10, FL L.length (pcsC L)), (9, str s)])) (HP [mtH m]) = some (.code (.exit 4) (SE (EJ 160 G0) [(18, .int .i64 (wqi g (L.drop i))), (15, str w), (14, .int .i64 c), (11, stP0), (10, FL L.length (pcsC L)), (9, str s)]), HP [mtH m]) := by
  intro k
  induction k with
  | zero =>
    intro i g hi
    rw [List.drop_of_length_le (by omega), wqi]
    refine wqb wxe ?_
    unfold wfe
    (repeat' (first | (simp -implicitDefEqProofs (maxSteps := 2000000) (disch := first | with_reducible assumption | omega | (simp only [zS, zA, seval, wvj, wjc, zD] <;> omega) | fail) only [zS, argl, insA, Go.Den.wh, wz, wmb, looks, wec, wac, idOf, riA, seval, Go.Den.wo, kK, wsc, *, zT]) | (with_reducible (first | apply z1 | apply z2 | apply z3 | apply z4) <;> intro hq <;> (try simp only [zH] at hq) <;> (try (exfalso; omega)))))
  | succ k ih =>
    intro i g hi
    have hlt : i < L.length := by omega
    have hlen : (pcsC L).length = L.length * 2 := wgi
    have hle : i * 2 + 2 ≤ (pcsC L).length := by omega
    rw [wbo hlt, wqi]
    have h := ih (i + 1) (max g (L.getD i (0, [])).1) (by omega)
    generalize wqi (max g (L.getD i (0, [])).1) (L.drop (i + 1)) = R at h ⊢
    clear ih
    refine wqb wxe ?_
    unfold wfe
    (repeat' (first | (simp -implicitDefEqProofs (maxSteps := 2000000) (disch := first | with_reducible assumption | omega | (simp only [zS, zA, seval, wvj, wjc, zD] <;> omega) | fail) only [zS, argl, insA, Go.Den.wh, wz, wmb, looks, wec, wac, idOf, riA, seval, Go.Den.wo, kK, wsc, wll, *, zT]) | (with_reducible (first | apply z1 | apply z2 | apply z3 | apply z4) <;> intro hq <;> (try simp only [zH] at hq) <;> (try (exfalso; omega)))))
    all_goals exact h
theorem wkub {size n l h : Nat} {cs : List Value} (h1 : l ≤ h) (h2 : h ≤ n) (h3 : n * size = cs.length) : slG size n cs (some l) (some h) = val (FL (h - l) (slotsOf cs (l * size) ((h - l) * size))) := by
  by_cases e : l = h
  · subst e
    show (bif Nat.ble l l && (Nat.ble l n && Nat.beq (n * size) cs.length) then (bif Nat.beq l l then val (FL 0 []) else _) else .none) = _
    rw [nble, nble, nbeq, nbeq, decide_eq_true h1, decide_eq_true h2, decide_eq_true h3, decide_eq_true rfl, Nat.sub_self, Nat.zero_mul]
    unfold slotsOf
    rw [List.take_zero]
    rfl
  · exact slG_some (by omega) h2 h3
theorem wlub {l : List Pc} {n k : Nat} (h : n + k ≤ l.length) : slotsOf (pcsC l) (n * 2) (k * 2) = pcsC ((l.drop n).take k) := by
  induction l generalizing n with
  | nil =>
    have : n = 0 ∧ k = 0 := by simp at h; omega
    rw [this.1, this.2]; rfl
  | cons m l ih =>
    cases n with
    | succ n =>
      have h2 := ih (n := n) (by rw [List.length_cons] at h; omega)
      rw [List.drop_succ_cons, ← h2]
      unfold slotsOf
      rw [show pcsC (m :: l) = pcC m ++ pcsC l by rw [pcsC, pcsC, List.flatMap_cons], show (n + 1) * 2 = (pcC m).length + n * 2 by rw [wrfb]; omega, List.drop_append, List.drop_of_length_le (by omega), List.nil_append]
      congr 2
      omega
    | zero =>
      clear ih
      rw [List.drop_zero, Nat.zero_mul]
      generalize m :: l = l at *
      unfold slotsOf
      rw [List.drop_zero]
      induction k generalizing l with
      | zero => rw [Nat.zero_mul, List.take_zero, List.take_zero]; rfl
      | succ k ih =>
        cases l with
        | nil => simp at h
        | cons m l =>
          rw [List.take_succ_cons, show pcsC (m :: l) = pcC m ++ pcsC l by rw [pcsC, pcsC, List.flatMap_cons], show pcsC (m :: l.take k) = pcC m ++ pcsC (l.take k) by rw [pcsC, pcsC, List.flatMap_cons]]
          rw [← ih l (by rw [List.length_cons] at h; omega), show (k + 1) * 2 = (pcC m).length + k * 2 by rw [wrfb]; omega, List.take_append]
          rw [List.take_of_length_le (show (pcC m).length ≤ (pcC m).length + k * 2 by omega)]
          congr 2
          omega
theorem wmub {l : List Pc} {c : Nat} (h : c ≤ l.length) : slG 2 l.length (pcsC l) (some 0) (some c) = val (FL (l.take c).length (pcsC (l.take c))) := by
  rw [wkub (Nat.zero_le _) h wgi.symm, wlub (by omega), List.drop_zero, List.length_take, Nat.sub_zero, Nat.min_eq_left h]
theorem wnub {l : List Pc} {c : Nat} (h : c ≤ l.length) : slG 2 l.length (pcsC l) (some c) (some l.length) = val (FL (l.drop c).length (pcsC (l.drop c))) := by
  rw [wkub h (Nat.le_refl _) wgi.symm, wlub (by omega), List.length_drop, List.take_of_length_le (by rw [List.length_drop]; omega)]
end
end Go.Proofs.Ytdbhfmdndiphcaa
namespace Go.Proofs.Ytdbhfmdndiphcaa
set_option linter.unusedVariables false
set_option linter.unusedSimpArgs false
open Go.Den
noncomputable section
theorem wto {h : List ABlk} (hh : h.length ≤ 1099511627774) {elem size bytes i n : Nat} {new : List Value} (hn : n ≤ 16777216) (h0 : 0 < n) (hb : bytes ≤ 1048576) (ha : wgd (nfL new) = true) :
    appN h elem size bytes (.slice (some ⟨i, 0, none⟩) 0 1) n new = .eff (FO h.length n (nfL new)) (HP (h ++ [.tok n elem size])) := by
  rw [← wmtb hh (elem := elem) (size := size) hn hb ha]
  show (bif roomy (0 + n) bytes && Nat.ble 0 0 then wti true (HP h) elem size (.slice (some ⟨i, 0, none⟩) 0 1) ⟨i, 0, none⟩ 0 0 n new else .none) = (bif roomy n bytes then wze true (HP h) elem size new n else .none)
  unfold wti
  rw [Nat.zero_add, nble, nble, decide_eq_false (show ¬ n ≤ 0 by omega)]
  simp
theorem pcs_nf {l : List Pc} : nfL (pcsC l) = pcsC l := wkl wsfb
theorem wtkb {h : List ABlk} (hh : h.length ≤ 1099511627774) {elem size bytes i n : Nat} {new : List Value} (hn : n ≤ 16777216) (h0 : 0 < n) (hb : bytes ≤ 1048576) (ha : wgd new = true) :
    appN h elem size bytes (.slice (some ⟨i, 0, none⟩) 0 1) n new = .eff (FO h.length n new) (HP (h ++ [.tok n elem size])) := by
  rw [wto hh hn h0 hb (by rw [wkl ha]; exact ha), wkl ha]
theorem wcs {h : List ABlk} {elem size bytes i : Nat} {cs : List Value} : appA true (HP h) elem size bytes (.slice (some ⟨i, 0, none⟩) 0 1) (FL 0 cs) = .eff (.slice (some ⟨i, 0, none⟩) 0 1) (HP h) := rfl
set_option maxRecDepth 100000 in
set_option maxHeartbeats 8000000 in
theorem tf_empty (ks text sp : List Int) (cut : Int) (hT : lim Try.prog cfg (.call 44 [.agg ⟨[FL ks.length (ints ks)]⟩, .int .i64 3]) (HP []) = some (.val (FL 0 []), HP [])) : lim Try.prog cfg (.call 13 [.agg ⟨[FL ks.length (ints ks)]⟩, FL text.length (ints text), FL sp.length (ints sp), .int .i64 cut]) (HP []) = some (.val (.bool true), HP []) := by
  have h1 := wbub text 10 (by omega)
  have hs : (wwdb text 10).length ≤ 10 := by unfold wwdb; rw [List.length_map, List.length_take]; omega
  generalize wwdb text 10 = s at *
  rw [show ((10 : Nat) : Int) = 10 from rfl] at h1
  obtain ⟨m, hm⟩ := whub sp [] s (by omega) cut 4 0 Mt.zero rfl
  rw [show ((0 : Nat) : Int) = 0 from rfl, show mtH Mt.zero = X [.int .i64 0, .int .i64 0, .int .i64 0, .int .i64 0, .int .i64 0, .int .i64 0, .int .i64 0, .int .i64 0] 55 0 true from rfl] at hm
  simp only [mtH, stP0] at hm
  have hcw := wuf cut 0 0 (by omega) (by omega) (by omega)
  have bc := wIn cut 0 0 (by omega)
  rw [show wtd cut 0 0 = 0 by omega] at hcw
  have hs1 : slG 2 0 [] (some 0) (some 0) = val (FL 0 []) := rfl
  have hw := wiub m [] (by simp) (fun p h => by cases h) s (by omega) 0 0 0 [] rfl (by simp)
  have hh := wjub m [] (by simp) s [] 0 0 0 0 rfl
  rw [show (([] : List Pc).length : Int) = 0 from rfl, show ((0 : Nat) : Int) = 0 from rfl, show ([] : List Pc).length = 0 from rfl, show pcsC [] = [] from rfl, show ([] : List UInt8) ++ wlf m s (([] : List Pc).drop 0) = [] from rfl] at hw
  rw [show (([] : List Pc).length : Int) = 0 from rfl, show ((0 : Nat) : Int) = 0 from rfl, show ([] : List Pc).length = 0 from rfl, show pcsC [] = [] from rfl, show wqi 0 (([] : List Pc).drop 0) = 0 from rfl] at hh
  rw [show ([] : List Pc).length = 0 from rfl, show pcsC [] = [] from rfl] at hm
  simp only [mtH, stP0] at hw hh
  have f3 := wbs m s (by omega) [] (by simp) (by simp)
  rw [show ([] : List Pc).length = 0 from rfl, show pcsC [] = [] from rfl, show wlf m s [] = [] from rfl] at f3
  have r1 := wvk 0 [] (by simp) (by simp)
  have r3 := wvk 3 [(-1, [])] (by simp) (by simp)
  rw [show ([] : List Pc).length = 0 from rfl, show pcsC [] = [] from rfl, show woc 0 false [] = true from rfl] at r1
  rw [show ([(-1, [])] : List Pc).length = 1 from rfl, show pcsC [(-1, [])] = [.int .i64 (-1), str []] from rfl, show woc 3 false [(-1, [])] = false from rfl] at r3
  clear bc
  refine wcd hc wae (Nat.le_of_ble_eq_true rfl) (Nat.le_of_ble_eq_true rfl) ?_
  unfold wsd
  (repeat' (first | (simp -implicitDefEqProofs (maxSteps := 2000000) (disch := first | with_reducible assumption | omega | (simp only [zS, zA, seval, wvj, wjc, zD] <;> omega) | fail) only [zS, argl, insA, Go.Den.wh, wz, wmb, looks, wec, wac, idOf, riA, seval, Go.Den.wo, kK, wbc, wrc, wsc, wxb, wkc, wyc, wudb, wvdb, wtkb, wcs, *, zT]) | (with_reducible (first | apply z1 | apply z2 | apply z3 | apply z4) <;> intro hq <;> (try simp only [zH] at hq) <;> (try (exfalso; omega))) | (with_reducible apply z5; (case hl => (repeat (first | exact .nil | with_reducible apply z6 | with_reducible apply z7))); (case h => kernel_rfl))))
set_option maxRecDepth 100000 in
set_option maxHeartbeats 8000000 in
theorem wukb (ks text sp : List Int) (cut : Int) : lim Try.prog cfg (.call 13 [.agg ⟨[FL ks.length (ints ks)]⟩, FL text.length (ints text), FL sp.length (ints sp), .int .i64 cut]) (HP []) = some (.val (.bool true), HP []) := by
  obtain ⟨L, hT, hl5, hr⟩ := ev_Tpl ks 3 (by omega) (by omega)
  by_cases hL0 : L = []
  · subst hL0
    exact tf_empty ks text sp cut hT
  have hp := wxtb L false hr
  have hge := right_ge L false hr
  have h1 := wbub text 10 (by omega)
  have hs : (wwdb text 10).length ≤ 10 := by unfold wwdb; rw [List.length_map, List.length_take]; omega
  generalize wwdb text 10 = s at *
  rw [show ((10 : Nat) : Int) = 10 from rfl] at h1
  obtain ⟨m, hm⟩ := whub sp L s (by omega) cut 4 0 Mt.zero rfl
  rw [show ((0 : Nat) : Int) = 0 from rfl, show mtH Mt.zero = X [.int .i64 0, .int .i64 0, .int .i64 0, .int .i64 0, .int .i64 0, .int .i64 0, .int .i64 0, .int .i64 0] 55 0 true from rfl] at hm
  simp only [mtH, stP0] at hm
  have hcw := wuf cut 0 L.length (by omega) (by omega) (by omega)
  have bc := wIn cut 0 L.length (by omega)
  obtain ⟨c, hcc⟩ : ∃ c : Nat, wtd cut 0 L.length = c := ⟨_, (Int.toNat_of_nonneg bc.1).symm⟩
  rw [hcc] at hcw bc
  clear hcc
  have hcl : c ≤ L.length := by omega
  clear bc
  have hs1 := wmub hcl
  have hs2 := wnub hcl
  have hw := wiub m L hl5 (fun p h => ⟨by have := hp p h; omega, hge p h⟩) s (by omega) c L.length 0 [] (by omega) (by simp)
  rw [List.drop_zero, List.nil_append, show ((0 : Nat) : Int) = 0 from rfl] at hw
  have hh := wjub m L hl5 s (wlf m s L) c L.length 0 0 (by omega)
  rw [List.drop_zero, show ((0 : Nat) : Int) = 0 from rfl] at hh
  simp only [mtH, stP0] at hw hh
  have p1 : ∀ p ∈ L.take c, p.2.length ≤ 1000 := fun p h => by have := hp p (List.mem_of_mem_take h); omega
  have p2 : ∀ p ∈ L.drop c, p.2.length ≤ 1000 := fun p h => by have := hp p (List.mem_of_mem_drop h); omega
  have p0 : ∀ p ∈ L, p.2.length ≤ 1000 := fun p h => by have := hp p h; omega
  have f0 := wbs m s (by omega) L (by omega) p0
  have f1 := wbs m s (by omega) (L.take c) (by rw [List.length_take]; omega) p1
  have f2 := wbs m s (by omega) (L.drop c) (by rw [List.length_drop]; omega) p2
  have f3 := wbs m s (by omega) [] (by simp) (by simp)
  rw [show ([] : List Pc).length = 0 from rfl, show pcsC [] = [] from rfl, show wlf m s [] = [] from rfl] at f3
  have k1 := wmw m s (by omega) (L.take c) p1
  have k2 := wmw m s (by omega) (L.drop c) p2
  have kt : (L.take c).length ≤ 5 := by rw [List.length_take]; omega
  have kd : (L.drop c).length ≤ 5 := by rw [List.length_drop]; omega
  have hcut := fill_cut m s L c
  have r3 := wvk 3 (L ++ [(-1, [])]) (by simp; omega) (by intro p h; rcases List.mem_append.1 h with h | h; exact p0 p h; rw [List.mem_singleton.1 h]; simp)
  rw [wgub, wbq, List.length_append, List.length_singleton] at r3
  have g0 := wcub L 0
  have r1 := wvk (wqi 0 L) L (by omega) p0
  rw [wskb L false hr (high_mem L 0)] at r1
  have r2 := wvk (wqi 0 L - 1) L (by omega) p0
  have r2b : wqi 0 L = 0 ∨ woc (wqi 0 L - 1) false L = false := by
    by_cases e : wqi 0 L = 0
    · exact .inl e
    · refine .inr (wfub (by omega) L false ?_)
      rcases wdub L 0 with h | ⟨p, h, e2⟩
      · exact absurd h e
      · exact ⟨p, h, by omega⟩
  have hlen : (pcsC L).length = L.length * 2 := wgi
  have g3 : wqi 0 L ≤ 3 := by
    rcases wdub L 0 with h | ⟨p, h, e2⟩
    · omega
    · have : woc 3 false L = true := hr
      have := weub (by omega) L false hr p h
      omega
  generalize wqi 0 L = hi at *
  generalize wlf m s L = w at *
  generalize wlf m s (L.take c) = w1 at *
  generalize wlf m s (L.drop c) = w2 at *
  generalize L.take c = L1 at *
  generalize L.drop c = L2 at *
  generalize woc (hi - 1) false L = rb at *
  clear hp hge hr p0 p1 p2
  subst hcut
  have hL1 : 0 < L.length := List.length_pos_iff.2 hL0
  clear hL0
  by_cases hz : hi = 0
  · subst hz
    clear r2b r2
    refine wcd hc wae (Nat.le_of_ble_eq_true rfl) (Nat.le_of_ble_eq_true rfl) ?_
    unfold wsd
    (repeat' (first | (simp -implicitDefEqProofs (maxSteps := 2000000) (disch := first | with_reducible assumption | omega | (simp only [zS, zA, seval, wvj, wjc, zD] <;> omega) | fail) only [zS, argl, insA, Go.Den.wh, wz, wmb, looks, wec, wac, idOf, riA, seval, Go.Den.wo, kK, wbc, wrc, wsc, wxb, wkc, wyc, wudb, wvdb, wto, wcs, pcs_nf, *, zT]) | (with_reducible (first | apply z1 | apply z2 | apply z3 | apply z4) <;> intro hq <;> (try simp only [zH] at hq) <;> (try (exfalso; omega))) | (with_reducible apply z5; (case hl => (repeat (first | exact .nil | with_reducible apply z6 | with_reducible apply z7))); (case h => kernel_rfl))))
  · have r2c : rb = false := by rcases r2b with e | e; exact absurd e hz; exact e
    subst r2c
    clear r2b
    refine wcd hc wae (Nat.le_of_ble_eq_true rfl) (Nat.le_of_ble_eq_true rfl) ?_
    unfold wsd
    (repeat' (first | (simp -implicitDefEqProofs (maxSteps := 2000000) (disch := first | with_reducible assumption | omega | (simp only [zS, zA, seval, wvj, wjc, zD] <;> omega) | fail) only [zS, argl, insA, Go.Den.wh, wz, wmb, looks, wec, wac, idOf, riA, seval, Go.Den.wo, kK, wbc, wrc, wsc, wxb, wkc, wyc, wudb, wvdb, wto, wcs, pcs_nf, *, zT]) | (with_reducible (first | apply z1 | apply z2 | apply z3 | apply z4) <;> intro hq <;> (try simp only [zH] at hq) <;> (try (exfalso; omega))) | (with_reducible apply z5; (case hl => (repeat (first | exact .nil | with_reducible apply z6 | with_reducible apply z7))); (case h => kernel_rfl))))
end
end Go.Proofs.Ytdbhfmdndiphcaa
namespace Go.Den
noncomputable section
open Go.ChangeShapes Go.WideShapes Go.RowKit
variable {P : Program} {cfg : Cfg} {H : Type} {enc : TypeId × Value → H}
theorem known_ev (wsf : wjf P cfg.glob cfg.know) (hm : P.follows .mixedOrders = true) {f : FuncId} {a : List Value} {v : Value} (h : Ev P cfg (.call f a) AH0 (.val v, AH0)) (ha : web a = true) (hv : wzc v = true) : wbj P cfg.glob f a v := by
  obtain ⟨n, h⟩ := h
  exact wdp wsf hm (h n (Nat.le_refl n)) ha hv
def renW (w : World) : Ren := ⟨fun _ _ => none, fun b i => w.cell? ⟨b, i, none⟩⟩
theorem woub (wsf : wjf P cfg.glob cfg.know) (hm : P.follows .mixedOrders = true) (hg : cfg.glob = fun _ => none) {f : FuncId} {a : List Value} (h : Ev P cfg (.call f a) AH0 (.val (.bool true), AH0)) (ha : web a = true) (w : World) (args' : Array Value) (hA : VRL (renW w) a args'.toList) :
    Calls P f args' w fun e w' => e = .returned (.bool true) ∧ w.heap.size ≤ w'.heap.size ∧ (∀ b : Nat, b < w.heap.size → w'.heap[b]? = w.heap[b]?) ∧ w'.os = w.os ∧ w'.output = w.output := by
  refine (known_ev wsf hm h ha rfl (renW w) w args' (fun _ _ _ h => h) (by rw [hg]; exact gok_none _) hA).mono ?_
  rintro e w' ⟨ρ', v', rfl, h1, _, _, _, _, h5, h2, h3, h4⟩
  rw [h1.bool_inv]
  exact ⟨rfl, h5, h2, h3, h4⟩
theorem same_at {W W' : World} (hb : ∀ b : Nat, b < W.heap.size → W'.heap[b]? = W.heap[b]?) {p : MemPlace} (hp : p.block < W.heap.size) : W.sameAt W' p := by
  cases p with
  | cell b o => exact World.cell?_of_block (w := W) (hb b hp)
  | map b => exact hb b hp
theorem wnw (hl : laidOutB P = true) {W W' : World} (hb : ∀ b : Nat, b < W.heap.size → W'.heap[b]? = W.heap[b]?) {sp : Nat → Bool} : ∀ (ts : List TypeId) (vs : List Value) (ds : List (DataW H)) (ps : List MemPlace), (ts.all fun t => P.readableRec t && decide (t < P.types.size)) = true →
    DataW.TrodAll enc P W 0 (fun _ => true) true ts vs ds ps → (∀ p ∈ ps, p.block < W.heap.size) → (∀ p ∈ ps, sp p.block = true) → DataW.TrodAll enc P W' 0 sp true ts vs ds ps := by
  intro ts
  induction ts with
  | nil =>
    intro vs ds ps _ h _ _
    obtain ⟨rfl, rfl, rfl⟩ := trodAll_nil h
    exact trodAll_mk0
  | cons t ts ih =>
    intro vs ds ps ht h hlt hs
    obtain ⟨v, vs', d, ds', p, q, rfl, rfl, rfl, h0, h1⟩ := trodAll_cons h
    simp only [List.all_cons, Bool.and_eq_true, decide_eq_true_eq] at ht
    exact trodAll_cons_mk (WideElems.Trod_stays hl ht.1.1 ht.1.2 h0 (fun x hx => same_at hb (hlt x (List.mem_append_left _ hx))) (fun x hx => hs x (List.mem_append_left _ hx)))
      (ih vs' ds' q (by simpa using ht.2) h1 (fun x hx => hlt x (List.mem_append_right _ hx)) (fun x hx => hs x (List.mem_append_right _ hx)))
theorem law_post (hl : laidOutB P = true) {f : Func} {s : ChangeSpec} {apart fresh handsOn : Bool} {W W' : World} {args : Array Value} {ds gs : List (DataW H)} {before : List MemPlace}
    (hW : DataW.Whole enc P f.params.toList s.vars apart W args.toList ds gs before) (hvars : s.vars = []) (hbool : ∃ t, f.resultTypes = #[t] ∧ P.underlying t = some .bool)
    (hts : (f.params.toList.all fun t => P.readableRec t && decide (t < P.types.size)) = true)
    (hfn : s.fn H (ds ++ gs) = { results := [.lit (.bool true)], args := ds })
    (hs : ∀ b : Nat, b < W.heap.size → W'.heap[b]? = W.heap[b]?) (ho : W'.os = W.os) (hp : W'.output = W.output) : s.post enc P f apart fresh handsOn false W args (.bool true) W' := by
  have hW' := hW
  obtain ⟨p, q, hA, hV, rfl, hfz, hnd⟩ := hW
  rw [hvars] at hV
  obtain ⟨rfl, rfl⟩ := trodVars_none hV
  obtain ⟨t, ht, hu⟩ := hbool
  refine winb (pa := p) (pv := []) hW' (fun b sp hd => ?_) (fun sp hsp => ?_) (fun sp _ => ?_) rfl (kept_of hs ho hp)
  · rw [ht, hfn]
    exact trodAll_cons_mk (shut_bool hu _) trodAll_mk0
  · rw [hfn]
    exact wnw hl hs _ _ _ _ hts hA (fun x hx => hW'.lt x (List.mem_append_left _ hx)) (fun x hx => hsp x (List.mem_append_left _ hx))
  · rw [hfn, hvars]
    exact rfl
end
end Go.Den
namespace Go.Den
noncomputable section
open Go.ChangeShapes Go.WideShapes Go.RowKit
variable {P : Program} {H : Type} {enc : TypeId × Value → H}
theorem row_VR {W : World} {t e : TypeId} {k : IntKind} (ht : P.underlying t = some (.slice e)) (he : P.underlying e = some (.int k)) (hc : P.cellsOf e = 1) {r : Reach} {b0 base fuel : Nat} {sp : Nat → Bool} {held : Bool} {v : Value} {x : DataW H × List MemPlace}
    (hval : Cell.okWide P W r b0 t v) (hf : DataW.trod enc P W base sp held fuel t [v] = some x) : ∃ l : List Int, VR (renW W) (FL l.length (l.map (Value.int k))) v := by
  rcases open_ints ht he hc hf with ⟨hcs, _⟩ | ⟨a, len, cap, zs, hcs, _, hl, hm, hz, _, hcell, _⟩
  · cases hcs
    exact ⟨[], .listNo⟩
  · cases hcs
    have hsp : a.spot = none := by
      simp only [Cell.okWide, ht, Cell.ok] at hval
      exact hval.2.2.2.1
    obtain ⟨blk, off, spot⟩ := a
    subst hsp
    have hlz : len ≤ zs.length := by rw [hz]; split <;> omega
    have hlen : (zs.take len).length = len := by rw [List.length_take]; omega
    refine ⟨zs.take len, ?_⟩
    rw [hlen]
    refine VR.list (a' := ⟨blk, off, none⟩) hl (fun i => .int k (zs.getD i 0)) (fun i hi => ?_) (fun i v hv => ?_)
    · rw [List.length_map, hlen] at hi
      have := hcell i (by omega)
      rw [show (⟨blk, off, none⟩ : Addr).add i = ⟨blk, off + i, none⟩ by unfold Addr.add; split <;> simp_all] at this
      exact this
    · rw [List.getElem?_map] at hv
      have hi : i < len := by
        have := (List.getElem?_eq_some_iff.1 (show ((zs.take len).map (Value.int k))[i]? = some v by rw [List.getElem?_map]; exact hv)).1
        rw [List.length_map, hlen] at this; exact this
      rw [List.getElem?_take, if_pos hi, List.getElem?_eq_getElem (by omega)] at hv
      cases hv
      rw [List.getD_eq_getElem?_getD, List.getElem?_eq_getElem (by omega)]
      exact .flat rfl
theorem wxz {W : World} {t e : TypeId} {k : IntKind} (ht : P.underlying t = some (.slice e)) (he : P.underlying e = some (.int k)) (hc : P.cellsOf e = 1) {r : Reach} {b0 base : Nat} {sp : Nat → Bool} {held : Bool} {v : Value} {d : DataW H} {ps : List MemPlace}
    (hval : Value.okWide P W r b0 t v) (hd : DataW.Trod enc P W base sp held t v d ps) : ∃ l : List Int, VR (renW W) (FL l.length (l.map (Value.int k))) v := by
  obtain ⟨a, len, cap, rfl⟩ := okWide_slice ht hval
  obtain ⟨fuel, hf⟩ := hd
  simp only [Value.okWide, ht] at hval
  exact row_VR ht he hc hval hf
theorem open_one {W : World} {t e : TypeId} {f0 : Field} {k : IntKind} (ht : P.underlying t = some (.struct #[f0])) (o0 : f0.offset = 0) (hsz : P.cellsOf t = 1) (c0 : P.cellsOf f0.type = 1) (u0 : P.underlying f0.type = some (.slice e)) (he : P.underlying e = some (.int k)) (hc : P.cellsOf e = 1) (hct : P.cellTypes P.depth t = some [f0.type])
    {r : Reach} {b0 base : Nat} {sp : Nat → Bool} {held : Bool} {v : Value} {d : DataW H} {ps : List MemPlace}
    (hval : Value.okWide P W r b0 t v) (hd : DataW.Trod enc P W base sp held t v d ps) : ∃ l1 : List Int, VR (renW W) (.agg ⟨[FL l1.length (l1.map (Value.int k))]⟩) v := by
  simp only [Value.okWide, ht] at hval
  obtain ⟨⟨cs⟩, rfl, hsize, ts, h1, _, hcell⟩ := hval
  rw [hct] at h1
  cases h1
  rw [hsz] at hsize
  match cs, hsize with
  | [a], _ =>
    obtain ⟨fuel, hf⟩ := hd
    obtain ⟨y0, n, _, hl, g0⟩ := trod_struct1 ht hf
    obtain ⟨ua, ea, ka⟩ := hcell 0 a rfl
    cases ea
    rw [o0, c0] at g0
    obtain ⟨l1, v1⟩ := row_VR u0 he hc ka (show DataW.trod enc P W base sp held n f0.type [a] = some y0 from g0)
    exact ⟨l1, VR.agg_mk (.cons v1 (.nil _))⟩
end
end Go.Den
