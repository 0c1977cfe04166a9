/-
  PARTS OF A PROOF, joined by a program (6 of 7): a proved reckoner of the model, and what the functions come to.
-/
import Derived.Test.YtjihbfdbgamcdaaQBsetTells5
import Derived.KernelRfl
import Derived.ChangeSame
import Derived.WideKeyArgs
import Derived.OpenShut
import Derived.WideKeyPair
import Derived.ChangeSlices
set_option linter.unusedVariables false
set_option linter.unusedSimpArgs false
namespace Go.Proofs.Ytjihbfdbgamcdaa
open Go.Den
noncomputable section
def live9 (i : Nat) : Option (List Tmp × List Tmp × Nat) := bif Nat.beq i 8 then some ([2, 3, 5, 11, 12, 13, 14, 15, 16, 17, 18, 19, 56, 57, 58], [2, 3, 5, 11, 12, 13, 14, 15, 16, 17, 18, 19], 999999) else bif Nat.beq i 15 then some ([2, 3, 5, 11, 12, 13, 14, 15, 16, 17, 18, 19, 22, 23, 67], [5, 10, 11, 12, 15, 16, 17, 18, 22, 23], 999999) else none
def live37 (i : Nat) : Option (List Tmp × List Tmp × Nat) := bif Nat.beq i 3 then some ([2, 3, 6, 7, 8], [2, 3], 999999) else none
def live38 (i : Nat) : Option (List Tmp × List Tmp × Nat) := bif Nat.beq i 2 then some ([1, 2, 4], [1, 2], 999999) else none
def live41 (i : Nat) : Option (List Tmp × List Tmp × Nat) := bif Nat.beq i 4 then some ([1, 5, 6], [5], 999999) else none
def live42 (i : Nat) : Option (List Tmp × List Tmp × Nat) := bif Nat.beq i 3 then some ([1, 4, 5, 6], [4, 5], 999999) else none
def live44 (i : Nat) : Option (List Tmp × List Tmp × Nat) := bif Nat.beq i 3 then some ([0, 2, 4, 6], [2, 4], 999999) else none
def live45 (i : Nat) : Option (List Tmp × List Tmp × Nat) := bif Nat.beq i 3 then some ([1, 3, 5], [3], 999999) else none
def live48 (i : Nat) : Option (List Tmp × List Tmp × Nat) := bif Nat.beq i 3 then some ([2, 3, 8, 9, 10], [2, 3], 999999) else bif Nat.beq i 6 then some ([2, 3, 8, 9, 10, 14, 15], [2, 3, 8, 9, 10], 999999) else none
def live50 (i : Nat) : Option (List Tmp × List Tmp × Nat) := bif Nat.beq i 3 then some ([3, 6, 7], [3], 999999) else none
def live51 (i : Nat) : Option (List Tmp × List Tmp × Nat) := bif Nat.beq i 4 then some ([0, 2, 7], [6], 999999) else none
def live77 (i : Nat) : Option (List Tmp × List Tmp × Nat) := bif Nat.beq i 4 then some ([0, 1, 5], [4], 999999) else none
def liveT (f i : Nat) : Option (List Tmp × List Tmp × Nat) := bif Nat.blt f 44 then (bif Nat.blt f 38 then (bif Nat.blt f 37 then (bif Nat.beq f 9 then live9 i else none) else (bif Nat.beq f 37 then live37 i else none)) else (bif Nat.blt f 41 then (bif Nat.beq f 38 then live38 i else none) else (bif Nat.blt f 42 then (bif Nat.beq f 41 then live41 i else none) else (bif Nat.beq f 42 then live42 i else none)))) else (bif Nat.blt f 50 then (bif Nat.blt f 45 then (bif Nat.beq f 44 then live44 i else none) else (bif Nat.blt f 48 then (bif Nat.beq f 45 then live45 i else none) else (bif Nat.beq f 48 then live48 i else none))) else (bif Nat.blt f 51 then (bif Nat.beq f 50 then live50 i else none) else (bif Nat.blt f 77 then (bif Nat.beq f 51 then live51 i else none) else (bif Nat.beq f 77 then live77 i else none))))
def tabK : List (FuncId × List Value × Value) := [(29, [], .bool true)]
def cfg : Cfg := { raw := fun f => (Nat.beq f 68 || Nat.beq f 99 || Nat.beq f 115, Nat.beq f 87), own := fun f => bif Nat.beq f 31 then false else bif Nat.beq f 68 then false else bif Nat.beq f 69 then false else bif Nat.beq f 99 then false else bif Nat.beq f 115 then false else bif Nat.beq f 41 then false else true, live := liveT, glob := fun _ => none, know := wyeb tabK wfib }
theorem hc : PlainA cfg := ⟨rfl⟩
theorem wog : weg Try.prog cfg.glob cfg.know := wblb (fun e he => by
 simp only [tabK, List.mem_cons, List.not_mem_nil, or_false] at he
 subst he; exact wgv) wvt
theorem woxb : (∀ (rec : Rec) (args : List Value) (H : AH), callS Try.prog cfg rec 9 args H = wzg rec 9 H (wwc Try.prog H 20 args) (cfg.know 9)) ∧ (∀ (rec : Rec) (args : List Value) (H : AH), callS Try.prog cfg rec 37 args H = wzg rec 37 H (wwc Try.prog H 20 args) (cfg.know 37)) ∧ (∀ (rec : Rec) (args : List Value) (H : AH), callS Try.prog cfg rec 38 args H = wzg rec 38 H (wwc Try.prog H 20 args) (cfg.know 38)) ∧ (∀ (rec : Rec) (args : List Value) (H : AH), callS Try.prog cfg rec 41 args H = wzg rec 41 H (wwc Try.prog H 20 args) (cfg.know 41)) ∧ (∀ (rec : Rec) (args : List Value) (H : AH), callS Try.prog cfg rec 42 args H = wzg rec 42 H (wwc Try.prog H 20 args) (cfg.know 42)) ∧ (∀ (rec : Rec) (args : List Value) (H : AH), callS Try.prog cfg rec 43 args H = wzg rec 43 H (wwc Try.prog H 20 args) (cfg.know 43)) ∧ (∀ (rec : Rec) (args : List Value) (H : AH), callS Try.prog cfg rec 44 args H = wzg rec 44 H (wwc Try.prog H 20 args) (cfg.know 44)) ∧ (∀ (rec : Rec) (args : List Value) (H : AH), callS Try.prog cfg rec 45 args H = wzg rec 45 H (wwc Try.prog H 20 args) (cfg.know 45)) ∧ (∀ (rec : Rec) (args : List Value) (H : AH), callS Try.prog cfg rec 46 args H = wzg rec 46 H (wwc Try.prog H 20 args) (cfg.know 46)) ∧ (∀ (rec : Rec) (args : List Value) (H : AH), callS Try.prog cfg rec 47 args H = wzg rec 47 H (wwc Try.prog H 20 args) (cfg.know 47)) ∧ (∀ (rec : Rec) (args : List Value) (H : AH), callS Try.prog cfg rec 48 args H = wzg rec 48 H (wwc Try.prog H 20 args) (cfg.know 48)) ∧ (∀ (rec : Rec) (args : List Value) (H : AH), callS Try.prog cfg rec 49 args H = wzg rec 49 H (wwc Try.prog H 20 args) (cfg.know 49)) ∧ (∀ (rec : Rec) (args : List Value) (H : AH), callS Try.prog cfg rec 50 args H = wzg rec 50 H (wwc Try.prog H 20 args) (cfg.know 50)) ∧ (∀ (rec : Rec) (args : List Value) (H : AH), callS Try.prog cfg rec 51 args H = wzg rec 51 H (wwc Try.prog H 20 args) (cfg.know 51)) ∧ (∀ (rec : Rec) (args : List Value) (H : AH), callS Try.prog cfg rec 52 args H = wzg rec 52 H (wwc Try.prog H 20 args) (cfg.know 52)) ∧ (∀ (rec : Rec) (args : List Value) (H : AH), callS Try.prog cfg rec 73 args H = wzg rec 73 H (wwc Try.prog H 20 args) (cfg.know 73)) ∧ (∀ (rec : Rec) (args : List Value) (H : AH), callS Try.prog cfg rec 74 args H = wzg rec 74 H (wwc Try.prog H 20 args) (cfg.know 74)) ∧ (∀ (rec : Rec) (args : List Value) (H : AH), callS Try.prog cfg rec 75 args H = wzg rec 75 H (wwc Try.prog H 20 args) (cfg.know 75)) ∧ (∀ (rec : Rec) (args : List Value) (H : AH), callS Try.prog cfg rec 76 args H = wzg rec 76 H (wwc Try.prog H 20 args) (cfg.know 76)) ∧ (∀ (rec : Rec) (args : List Value) (H : AH), callS Try.prog cfg rec 77 args H = wzg rec 77 H (wwc Try.prog H 20 args) (cfg.know 77)) := ⟨fun _ _ _ => rfl, fun _ _ _ => rfl, fun _ _ _ => rfl, fun _ _ _ => rfl, fun _ _ _ => rfl, fun _ _ _ => rfl, fun _ _ _ => rfl, fun _ _ _ => rfl, fun _ _ _ => rfl, fun _ _ _ => rfl, fun _ _ _ => rfl, fun _ _ _ => rfl, fun _ _ _ => rfl, fun _ _ _ => rfl, fun _ _ _ => rfl, fun _ _ _ => rfl, fun _ _ _ => rfl, fun _ _ _ => rfl, fun _ _ _ => rfl, fun _ _ _ => rfl⟩
def G0 : (Nat → Option (List Value)) × Bool := (fun _ => none, true)
theorem g0_K : G0.2 = true := rfl
def G1 : (Nat → Option (List Value)) × Bool := (fun _ => none, false)
theorem g1_K : G1.2 = false := rfl
theorem g_K : (cfg.glob, cfg.own 9) = G0 ∧ (cfg.glob, cfg.own 37) = G0 ∧ (cfg.glob, cfg.own 38) = G0 ∧ (cfg.glob, cfg.own 41) = G1 ∧ (cfg.glob, cfg.own 42) = G0 ∧ (cfg.glob, cfg.own 43) = G0 ∧ (cfg.glob, cfg.own 44) = G0 ∧ (cfg.glob, cfg.own 45) = G0 ∧ (cfg.glob, cfg.own 46) = G0 ∧ (cfg.glob, cfg.own 47) = G0 ∧ (cfg.glob, cfg.own 48) = G0 ∧ (cfg.glob, cfg.own 49) = G0 ∧ (cfg.glob, cfg.own 50) = G0 ∧ (cfg.glob, cfg.own 51) = G0 ∧ (cfg.glob, cfg.own 52) = G0 ∧ (cfg.glob, cfg.own 73) = G0 ∧ (cfg.glob, cfg.own 74) = G0 ∧ (cfg.glob, cfg.own 75) = G0 ∧ (cfg.glob, cfg.own 76) = G0 ∧ (cfg.glob, cfg.own 77) = G0 := ⟨rfl, rfl, rfl, rfl, rfl, rfl, rfl, rfl, rfl, rfl, rfl, rfl, rfl, rfl, rfl, rfl, rfl, rfl, rfl, rfl⟩
theorem kn_K : cfg.know 37 = none ∧ cfg.know 38 = none ∧ cfg.know 41 = none ∧ cfg.know 42 = none ∧ cfg.know 43 = none ∧ cfg.know 44 = none ∧ cfg.know 45 = none ∧ cfg.know 46 = none ∧ cfg.know 47 = none ∧ cfg.know 48 = none ∧ cfg.know 49 = none ∧ cfg.know 50 = none ∧ cfg.know 51 = none ∧ cfg.know 52 = none ∧ cfg.know 73 = none ∧ cfg.know 74 = none ∧ cfg.know 75 = none ∧ cfg.know 76 = none ∧ cfg.know 77 = none := ⟨rfl, rfl, rfl, rfl, rfl, rfl, rfl, rfl, rfl, rfl, rfl, rfl, rfl, rfl, rfl, rfl, rfl, rfl, rfl⟩
theorem kw_K : ∀ (rec : Rec) (H : AH) (fr : Frs), wzg rec 29 H (some ([], fr)) (cfg.know 29) = .did (.bool true) none true (raise H fr) (wjl fr) := fun _ _ _ => by kernel_rfl
theorem tsz_K : tsz Try.prog 5 = 1 ∧ tsz Try.prog 43 = 4 := ⟨by kernel_rfl, by kernel_rfl⟩
theorem raw_K : (cfg.raw 9).2 = false ∧ (cfg.raw 37).2 = false ∧ (cfg.raw 38).2 = false ∧ (cfg.raw 41).2 = false ∧ (cfg.raw 42).2 = false ∧ (cfg.raw 43).2 = false ∧ (cfg.raw 44).2 = false ∧ (cfg.raw 45).2 = false ∧ (cfg.raw 46).2 = false ∧ (cfg.raw 47).2 = false ∧ (cfg.raw 48).2 = false ∧ (cfg.raw 49).2 = false ∧ (cfg.raw 50).2 = false ∧ (cfg.raw 51).2 = false ∧ (cfg.raw 52).2 = false ∧ (cfg.raw 73).2 = false ∧ (cfg.raw 74).2 = false ∧ (cfg.raw 75).2 = false ∧ (cfg.raw 76).2 = false ∧ (cfg.raw 77).2 = false := ⟨rfl, rfl, rfl, rfl, rfl, rfl, rfl, rfl, rfl, rfl, rfl, rfl, rfl, rfl, rfl, rfl, rfl, rfl, rfl, rfl⟩
theorem kK : type_of% @raw_K ∧ (type_of% @woxb ∧ type_of% @g_K) ∧ ((type_of% @g0_K ∧ type_of% @g1_K) ∧ type_of% @tsz_K) ∧ (type_of% @kn_K ∧ type_of% @kw_K) := ⟨@raw_K, ⟨@woxb, @g_K⟩, ⟨⟨@g0_K, @g1_K⟩, @tsz_K⟩, ⟨@kn_K, @kw_K⟩⟩
theorem wrb : cfg.live 9 (wqc (wtb 0)) = some ([2, 3, 5, 11, 12, 13, 14, 15, 16, 17, 18, 19, 56, 57, 58], [2, 3, 5, 11, 12, 13, 14, 15, 16, 17, 18, 19], 999999) := by kernel_rfl
theorem wsb : cfg.live 9 (wqc (wtb 1)) = some ([2, 3, 5, 11, 12, 13, 14, 15, 16, 17, 18, 19, 22, 23, 67], [5, 10, 11, 12, 15, 16, 17, 18, 22, 23], 999999) := by kernel_rfl
theorem whg : cfg.live 37 (wqc (wdi 0)) = some ([2, 3, 6, 7, 8], [2, 3], 999999) := by kernel_rfl
theorem wbl : cfg.live 38 (wqc (wyk 0)) = some ([1, 2, 4], [1, 2], 999999) := by kernel_rfl
theorem wyc : cfg.live 41 (wqc (wkd 0)) = some ([1, 5, 6], [5], 999999) := by kernel_rfl
theorem wri : cfg.live 42 (wqc (wwh 0)) = some ([1, 4, 5, 6], [4, 5], 999999) := by kernel_rfl
theorem wke : cfg.live 44 (wqc (wff 0)) = some ([0, 2, 4, 6], [2, 4], 999999) := by kernel_rfl
theorem wbd : cfg.live 45 (wqc (wng 0)) = some ([1, 3, 5], [3], 999999) := by kernel_rfl
theorem wpj : cfg.live 48 (wqc (wpe 0)) = some ([2, 3, 8, 9, 10], [2, 3], 999999) := by kernel_rfl
theorem wqj : cfg.live 48 (wqc (wpe 1)) = some ([2, 3, 8, 9, 10, 14, 15], [2, 3, 8, 9, 10], 999999) := by kernel_rfl
theorem wsi : cfg.live 50 (wqc (wxh 0)) = some ([3, 6, 7], [3], 999999) := by kernel_rfl
theorem wae : cfg.live 51 (wqc (wgd 0)) = some ([0, 2, 7], [6], 999999) := by kernel_rfl
theorem wme : cfg.live 77 (wqc (wwd 0)) = some ([0, 1, 5], [4], 999999) := by kernel_rfl
end
end Go.Proofs.Ytjihbfdbgamcdaa
namespace Go.Proofs.Ytjihbfdbgamcdaa
set_option linter.unusedVariables false
set_option linter.unusedSimpArgs false
open Go.Den
noncomputable section
def mtNone : Mt := ⟨[-1, -1, -1, -1, -1, -1, -1, -1], rfl⟩
theorem whl (s : BitVec 256) (x : Nat) (hx : x < 256) : lim Try.prog cfg (.call 46 [.agg ⟨setC s⟩, .int .u8 x]) (HP []) = some (.val (.bool (s.getLsbD x)), HP []) := by
 refine wfb hc wev (Nat.le_of_ble_eq_true rfl) (Nat.le_of_ble_eq_true rfl) ?_
 unfold wau
 have h1 : BitVec.ofInt (IntKind.bits .u64) 1 = BitVec.ofInt (IntKind.bits .u64) (((1#64).toNat : Nat) : Int) := rfl
 (repeat' (first | (simp -implicitDefEqProofs (maxSteps := 2000000) (disch := first | with_reducible assumption | omega | (simp only [zS, zA, seval, zD] <;> omega) | fail) only [zS, argl, insA, Go.Den.wm, ww, wbb, looks, wxb, wnb, idOf, riA, seval, Go.Den.wu, kK, wjj, wrgb, h1, wvwb, wwwb, *, zT]) | (with_reducible (first | apply z1 | apply z2 | apply z3 | apply z4) <;> intro hq <;> (try simp only [zH] at hq) <;> (try (exfalso; omega)))))
 have e1 : ((x : Int) / 64).toNat = x / 64 := by omega
 have e2 : ((x : Int) % 64).toNat = x % 64 := by omega
 rw [e1, e2, wxwb s x hx]
end
end Go.Proofs.Ytjihbfdbgamcdaa
namespace Go.Proofs.Ytjihbfdbgamcdaa
set_option linter.unusedVariables false
set_option linter.unusedSimpArgs false
open Go.Den
noncomputable section
abbrev ints (l : List Int) : List Value := l.map (Value.int .i64)
theorem wdh {P : Program} {cs : wzb} {R : Type} {K : KR R} {d : Option Tmp} {l : List RO} {e : Env} {H : AH} {wr : List Nat} {want : Bool} {x : ARes} : wwbb P cs K d l e H wr want x undef = opsR P cs K l (e.put d undef) H := by cases want <;> rfl
theorem wrj {want : Bool} : wtn want undef = some false := by cases want <;> rfl
theorem wld : refs JK = [] := rfl
theorem whf {m : Nm} : renV m JK = JK := rfl
end
end Go.Proofs.Ytjihbfdbgamcdaa
namespace Go.Proofs.Ytjihbfdbgamcdaa
set_option linter.unusedVariables false
set_option linter.unusedSimpArgs false
open Go.Den
noncomputable section
abbrev bsB (z s : BitVec 256) : List ABlk := [X (setC z) 43 0 true, X (setC s) 43 0 true]
theorem ej26 : (EJ 26 G0).get 4 = JK := rfl
end
end Go.Proofs.Ytjihbfdbgamcdaa
namespace Go.Proofs.Ytjihbfdbgamcdaa
set_option linter.unusedVariables false
set_option linter.unusedSimpArgs false
open Go.Den
noncomputable section
theorem of_end (x : Nat) (z s : BitVec 256) :
  lim Try.prog cfg (.loop 37 0 (wdi 0) (SE (EJ 23 G0) [(8, .int .i64 1), (7, .int .i64 1), (6, FL 1 [.int .u8 x]), (3, .pointer (some ⟨1, 0, none⟩)), (2, .pointer (some ⟨0, 0, none⟩))])) (HP (bsB z s)) = some (.code (.exit 0) (SE (EJ 23 G0) [(3, .pointer (some ⟨1, 0, none⟩)), (2, .pointer (some ⟨0, 0, none⟩))]), HP (bsB z s)) := by
 refine wbc wmg ?_
 unfold wmh
 (repeat' (first | (simp -implicitDefEqProofs (maxSteps := 2000000) (disch := first | with_reducible assumption | omega | (simp only [zS, zA, seval, wac, zD] <;> omega) | fail) only [zS, argl, insA, Go.Den.wm, ww, wbb, looks, wxb, wnb, idOf, riA, seval, Go.Den.wu, kK, whg, *, zT]) | (with_reducible (first | apply z1 | apply z2 | apply z3 | apply z4) <;> intro hq <;> (try simp only [zH] at hq) <;> (try (exfalso; omega)))))
theorem of_step (x : Nat) (hx : x < 256) (z s : BitVec 256) :
  lim Try.prog cfg (.loop 37 0 (wdi 0) (SE (EJ 23 G0) [(8, .int .i64 0), (7, .int .i64 1), (6, FL 1 [.int .u8 x]), (3, .pointer (some ⟨1, 0, none⟩)), (2, .pointer (some ⟨0, 0, none⟩))])) (HP (bsB z s)) = some (.code (.exit 0) (SE (EJ 23 G0) [(3, .pointer (some ⟨1, 0, none⟩)), (2, .pointer (some ⟨0, 0, none⟩))]), HP (bsB z (s ||| one x))) := by
 have h := of_end x z (s ||| one x)
 rw [← or_one s x hx] at h
 refine wbc wmg ?_
 unfold wmh
 have h1 : BitVec.ofInt (IntKind.bits .u64) 1 = BitVec.ofInt (IntKind.bits .u64) (((1#64).toNat : Nat) : Int) := rfl
 have e1 : ((x : Int) / 64).toNat = x / 64 := by omega
 have e2 : ((x : Int) % 64).toNat = x % 64 := by omega
 have hs : IntKind.wrap .u64 (1 * 2 ^ (min (x % 64) (IntKind.bits .u64))) = ((1#64 <<< (x % 64)).toNat : Nat) := by
  have := wsgb (b := ((x % 64 : Nat) : Int)) (by omega) (by omega)
  rwa [Int.toNat_natCast] at this
 have ho := wvib (wd s (x / 64)) (1#64 <<< (x % 64))
 have hset := wup s (show x / 64 < 4 by omega) (wd s (x / 64) ||| (1#64 <<< (x % 64)))
 rw [← or_one s x hx]
 (repeat' (first | (simp -implicitDefEqProofs (maxSteps := 2000000) (disch := first | with_reducible assumption | omega | (simp only [zS, zA, seval, wac, zD] <;> omega) | fail) only [zS, argl, insA, Go.Den.wm, ww, wbb, looks, wxb, wnb, idOf, riA, seval, Go.Den.wu, kK, whg, wjj, wh, *, zT]) | (with_reducible (first | apply z1 | apply z2 | apply z3 | apply z4) <;> intro hq <;> (try simp only [zH] at hq) <;> (try (exfalso; omega)))))
 all_goals exact h
theorem ev_Of1 (x : Nat) (hx : x < 256) : lim Try.prog cfg (.call 37 [FL 1 [.int .u8 x]]) (HP []) = some (.val (.agg ⟨setC (one x)⟩), HP []) := by
 have h := of_step x hx 0#256 0#256
 rw [show (0#256 ||| one x) = one x by simp] at h
 unfold bsB at h
 rw [show setC 0#256 = [.int .u64 0, .int .u64 0, .int .u64 0, .int .u64 0] from rfl] at h
 have h0 : ((1 : Nat) : Int) = 1 := rfl
 refine wfb hc wrp (Nat.le_of_ble_eq_true rfl) (Nat.le_of_ble_eq_true rfl) ?_
 unfold wpq
 (repeat' (first | (simp -implicitDefEqProofs (maxSteps := 2000000) (disch := first | with_reducible assumption | omega | (simp only [zS, zA, seval, wac, zD] <;> omega) | fail) only [zS, argl, insA, Go.Den.wm, ww, wbb, looks, wxb, wnb, idOf, riA, seval, Go.Den.wu, kK, whg, *, zT]) | (with_reducible (first | apply z1 | apply z2 | apply z3 | apply z4) <;> intro hq <;> (try simp only [zH] at hq) <;> (try (exfalso; omega)))))
end
end Go.Proofs.Ytjihbfdbgamcdaa
namespace Go.Proofs.Ytjihbfdbgamcdaa
set_option linter.unusedVariables false
set_option linter.unusedSimpArgs false
open Go.Den
noncomputable section
abbrev pS (i : Nat) : Value := .pointer (some ⟨i, 0, none⟩)
abbrev bS (s : BitVec 256) : ABlk := X (setC s) 43 0 true
abbrev sV (s : BitVec 256) : Value := .agg ⟨setC s⟩
theorem wpxb : ∀ l : List (BitVec 256), wdd (wyh l) = true := by
 intro l
 induction l with
 | nil => rfl
 | cons s l ih => show wdd (setC s ++ wyh l) = true; rw [wfj, ih]; rfl
theorem wcd (l : List (BitVec 256)) : FzL (wyh l) := fzl (wpxb l)
theorem wsc (a b : BitVec 256) : wtj [(Value.int .u64 0), .int .u64 0, .int .u64 0, .int .u64 0, .int .u64 0, .int .u64 0, .int .u64 0, .int .u64 0] [(0, 4, sV a), (4, 4, sV b)] = some (wyh [a, b]) := rfl
theorem wne (a b c : BitVec 256) : wtj [(Value.int .u64 0), .int .u64 0, .int .u64 0, .int .u64 0, .int .u64 0, .int .u64 0, .int .u64 0, .int .u64 0, .int .u64 0, .int .u64 0, .int .u64 0, .int .u64 0] [(0, 4, sV a), (4, 4, sV b), (8, 4, sV c)] = some (wyh [a, b, c]) := rfl
theorem s2l {a b : BitVec 256} : (wyh [a, b]).length = 8 := rfl
theorem s2n {a b : BitVec 256} : wcb (wyh [a, b]) = true := wgr _
theorem s2s {a b : BitVec 256} : slotsOf (wyh [a, b]) 0 8 = wyh [a, b] := wbk rfl
theorem s3l {a b c : BitVec 256} : (wyh [a, b, c]).length = 12 := rfl
theorem s3n {a b c : BitVec 256} : wcb (wyh [a, b, c]) = true := wgr _
theorem s3s {a b c : BitVec 256} : slotsOf (wyh [a, b, c]) 0 12 = wyh [a, b, c] := wbk rfl
theorem wwe {x : Int} : wtj [Value.int .u8 0] [(0, 1, .int .u8 x)] = some [.int .u8 x] := rfl
theorem wif {x y : Int} : wtj [Value.int .u8 0, .int .u8 0] [(0, 1, .int .u8 x), (1, 1, .int .u8 y)] = some [.int .u8 x, .int .u8 y] := rfl
theorem not_loop (s z : BitVec 256) : ∀ (m i : Nat) (t : BitVec 256), i + m = 4 → (∀ k, k < 4 → wd t k = if k < i then ~~~(wd s k) else wd s k) →
  lim Try.prog cfg (.loop 38 0 (wyk 0) (SE (EJ 15 G0) [(4, .int .i64 i), (2, pS 1), (1, pS 0)])) (HP [bS t, bS z]) = some (.code (.exit 0) (SE (EJ 15 G0) [(2, pS 1), (1, pS 0)]), HP [bS (~~~s), bS z]) := by
 intro m
 induction m with
 | zero =>
  intro i t hi ht
  have : t = ~~~s := by
   apply wuib
   intro k hk
   rw [ht k hk, if_pos (by omega)]
   apply BitVec.eq_of_getLsbD_eq
   intro j hj
   rw [BitVec.getLsbD_not, wfk, wfk, BitVec.getLsbD_not, decide_eq_true hj, decide_eq_true (show 64 * k + j < 256 by omega)]
   simp
  subst this
  clear ht
  refine wbc wel ?_
  unfold wzk
  (repeat' (first | (simp -implicitDefEqProofs (maxSteps := 2000000) (disch := first | with_reducible assumption | omega | (simp only [zS, zA, seval, wac, zD] <;> omega) | fail) only [zS, argl, insA, Go.Den.wm, ww, wbb, looks, wxb, wnb, idOf, riA, seval, Go.Den.wu, kK, wbl, *, zT]) | (with_reducible (first | apply z1 | apply z2 | apply z3 | apply z4) <;> intro hq <;> (try simp only [zH] at hq) <;> (try (exfalso; omega)))))
 | succ m ih =>
  intro i t hi ht
  have hi4 : i < 4 := by omega
  have hset := wup t hi4 (~~~(wd t i))
  have h := ih (i + 1) (wqgb t i (~~~(wd t i))) (by omega) (by
   intro k hk
   rw [wwib _ _ _ hk]
   by_cases hki : k = i
   ·rw [if_pos hki, if_pos (by omega), hki, ht i (by omega), if_neg (by omega)]
   ·rw [if_neg hki, ht k hk]
    by_cases hlt : k < i
    ·rw [if_pos hlt, if_pos (by omega)]
    ·rw [if_neg hlt, if_neg (by omega)])
  clear ih ht
  refine wbc wel ?_
  unfold wzk
  (repeat' (first | (simp -implicitDefEqProofs (maxSteps := 2000000) (disch := first | with_reducible assumption | omega | (simp only [zS, zA, seval, wac, zD] <;> omega) | fail) only [zS, argl, insA, Go.Den.wm, ww, wbb, looks, wxb, wnb, idOf, riA, seval, Go.Den.wu, kK, wbl, wjj, wh, not_u64, *, zT]) | (with_reducible (first | apply z1 | apply z2 | apply z3 | apply z4) <;> intro hq <;> (try simp only [zH] at hq) <;> (try (exfalso; omega)))))
  all_goals exact h
theorem wmcb (s : BitVec 256) : lim Try.prog cfg (.call 38 [sV s]) (HP []) = some (.val (sV (~~~s)), HP []) := by
 have h := not_loop s 0#256 4 0 s rfl (by intro k hk; simp)
 rw [show ((0 : Nat) : Int) = 0 from rfl] at h
 unfold bS at h
 rw [show setC 0#256 = [.int .u64 0, .int .u64 0, .int .u64 0, .int .u64 0] from rfl] at h
 refine wfb hc wfv (Nat.le_of_ble_eq_true rfl) (Nat.le_of_ble_eq_true rfl) ?_
 unfold wbu
 (repeat' (first | (simp -implicitDefEqProofs (maxSteps := 2000000) (disch := first | with_reducible assumption | omega | (simp only [zS, zA, seval, wac, wh, zD] <;> omega) | fail) only [zS, argl, insA, Go.Den.wm, ww, wbb, looks, wxb, wnb, idOf, riA, seval, Go.Den.wu, kK, wbl, wh, *, zT]) | (with_reducible (first | apply z1 | apply z2 | apply z3 | apply z4) <;> intro hq <;> (try simp only [zH] at hq) <;> (try (exfalso; omega)))))
theorem wbob (acc s z : BitVec 256) (l : List (BitVec 256)) (hl : l.length ≤ 100) (j : Nat) : ∀ (m i : Nat) (t : BitVec 256), i + m = 4 → (∀ k, k < 4 → wd t k = if k < i then wd acc k ||| wd s k else wd acc k) →
  lim Try.prog cfg (.loop 48 0 (wpe 1) (SE (EJ 28 G0) [(15, .int .i64 i), (14, sV s), (10, .int .i64 j), (9, .int .i64 l.length), (8, FL l.length (wyh l)), (3, pS 1), (2, pS 0)])) (HP [bS z, bS t]) = some (.code (.exit 2) (SE (EJ 28 G0) [(10, .int .i64 j), (9, .int .i64 l.length), (8, FL l.length (wyh l)), (3, pS 1), (2, pS 0)]), HP [bS z, bS (acc ||| s)]) := by
 intro m
 induction m with
 | zero =>
  intro i t hi ht
  have : t = acc ||| s := by
   apply wuib
   intro k hk
   rw [ht k hk, if_pos (by omega), wd_or]
  subst this
  clear ht
  refine wbc wck ?_
  unfold wmj
  (repeat' (first | (simp -implicitDefEqProofs (maxSteps := 2000000) (disch := first | with_reducible assumption | omega | (simp only [zS, zA, seval, wac, wcd, zD] <;> omega) | fail) only [zS, argl, insA, Go.Den.wm, ww, wbb, looks, wxb, wnb, idOf, riA, seval, Go.Den.wu, kK, wqj, *, zT]) | (with_reducible (first | apply z1 | apply z2 | apply z3 | apply z4) <;> intro hq <;> (try simp only [zH] at hq) <;> (try (exfalso; omega)))))
 | succ m ih =>
  intro i t hi ht
  have hi4 : i < 4 := by omega
  have hset := wup t hi4 (wd t i ||| wd s i)
  have ho := wvib (wd t i) (wd s i)
  have h := ih (i + 1) (wqgb t i (wd t i ||| wd s i)) (by omega) (by
   intro k hk
   rw [wwib _ _ _ hk]
   by_cases hki : k = i
   ·rw [if_pos hki, if_pos (by omega), hki, ht i (by omega), if_neg (by omega)]
   ·rw [if_neg hki, ht k hk]
    by_cases hlt : k < i
    ·rw [if_pos hlt, if_pos (by omega)]
    ·rw [if_neg hlt, if_neg (by omega)])
  clear ih ht
  refine wbc wck ?_
  unfold wmj
  (repeat' (first | (simp -implicitDefEqProofs (maxSteps := 2000000) (disch := first | with_reducible assumption | omega | (simp only [zS, zA, seval, wac, wcd, zD] <;> omega) | fail) only [zS, argl, insA, Go.Den.wm, ww, wbb, looks, wxb, wnb, idOf, riA, seval, Go.Den.wu, kK, wqj, wjj, wh, *, zT]) | (with_reducible (first | apply z1 | apply z2 | apply z3 | apply z4) <;> intro hq <;> (try simp only [zH] at hq) <;> (try (exfalso; omega)))))
  all_goals exact h
theorem wqxb (l : List (BitVec 256)) (hl : l.length ≤ 100) (z : BitVec 256) : ∀ (m i : Nat), i + m = l.length →
  lim Try.prog cfg (.loop 48 0 (wpe 0) (SE (EJ 28 G0) [(10, .int .i64 i), (9, .int .i64 l.length), (8, FL l.length (wyh l)), (3, pS 1), (2, pS 0)])) (HP [bS z, bS (joinL (l.take i))]) = some (.code (.exit 0) (SE (EJ 28 G0) [(3, pS 1), (2, pS 0)]), HP [bS z, bS (joinL l)]) := by
 intro m
 induction m with
 | zero =>
  intro i hi
  rw [List.take_of_length_le (by omega)]
  refine wbc wdk ?_
  unfold wnj
  (repeat' (first | (simp -implicitDefEqProofs (maxSteps := 2000000) (disch := first | with_reducible assumption | omega | (simp only [zS, zA, seval, wac, wcd, zD] <;> omega) | fail) only [zS, argl, insA, Go.Den.wm, ww, wbb, looks, wxb, wnb, idOf, riA, seval, Go.Den.wu, kK, wpj, *, zT]) | (with_reducible (first | apply z1 | apply z2 | apply z3 | apply z4) <;> intro hq <;> (try simp only [zH] at hq) <;> (try (exfalso; omega)))))
 | succ m ih =>
  intro i hi
  have hlt : i < l.length := by omega
  have hs := wvnb l i hlt
  have hlen := wjcb l
  have hw := wbob (joinL (l.take i)) (l.getD i 0#256) z l hl i 4 0 (joinL (l.take i)) rfl (by intro k hk; simp)
  rw [show ((0 : Nat) : Int) = 0 from rfl] at hw
  have h := ih (i + 1) (by omega)
  rw [wwnb l hlt] at h
  generalize joinL (l.take i) = acc at *
  generalize joinL l = R at *
  generalize l.getD i 0#256 = s at *
  clear ih
  have hfull : i * 4 + 4 ≤ (wyh l).length := by omega
  refine wbc wdk ?_
  unfold wnj
  (repeat' (first | (simp -implicitDefEqProofs (maxSteps := 2000000) (disch := first | with_reducible assumption | omega | (simp only [zS, zA, seval, wac, wcd, wh, zD] <;> omega) | fail) only [zS, argl, insA, Go.Den.wm, ww, wbb, looks, wxb, wnb, idOf, riA, seval, Go.Den.wu, kK, wpj, wqj, wh, *, zT]) | (with_reducible (first | apply z1 | apply z2 | apply z3 | apply z4) <;> intro hq <;> (try simp only [zH] at hq) <;> (try (exfalso; omega)))))
  all_goals exact h
theorem wnc (l : List (BitVec 256)) (hl : l.length ≤ 100) : lim Try.prog cfg (.call 48 [FL l.length (wyh l)]) (HP []) = some (.val (sV (joinL l)), HP []) := by
 have h := wqxb l hl 0#256 l.length 0 (by omega)
 rw [show ((0 : Nat) : Int) = 0 from rfl, List.take_zero, show joinL [] = 0#256 from rfl] at h
 unfold bS at h
 rw [show setC 0#256 = [.int .u64 0, .int .u64 0, .int .u64 0, .int .u64 0] from rfl] at h
 refine wfb hc wcu (Nat.le_of_ble_eq_true rfl) (Nat.le_of_ble_eq_true rfl) ?_
 unfold wer
 (repeat' (first | (simp -implicitDefEqProofs (maxSteps := 2000000) (disch := first | with_reducible assumption | omega | (simp only [zS, zA, seval, wac, wcd, wh, zD] <;> omega) | fail) only [zS, argl, insA, Go.Den.wm, ww, wbb, looks, wxb, wnb, idOf, riA, seval, Go.Den.wu, kK, wpj, wh, *, zT]) | (with_reducible (first | apply z1 | apply z2 | apply z3 | apply z4) <;> intro hq <;> (try simp only [zH] at hq) <;> (try (exfalso; omega)))))
theorem wcob (lo hi : Nat) (hl : lo < 256) (hh : hi < 256) (z : BitVec 256) : ∀ (m k : Nat), hi + 1 - k = m → lo ≤ k →
  lim Try.prog cfg (.loop 42 0 (wwh 0) (SE (EJ 23 G0) [(6, .int .i64 k), (5, pS 1), (4, pS 0), (1, .int .u8 hi)])) (HP [bS z, bS (rng lo (k - lo))]) = some (.code (.exit 0) (SE (EJ 23 G0) [(5, pS 1), (4, pS 0)]), HP [bS z, bS (rng lo (k - lo + m))]) := by
 intro m
 induction m with
 | zero =>
  intro k hk hlo
  have hk2 : ¬ (k : Int) ≤ hi := by omega
  rw [Nat.add_zero]
  generalize rng lo (k - lo) = R at *
  refine wbc wgj ?_
  unfold wni
  (repeat' (first | (simp -implicitDefEqProofs (maxSteps := 2000000) (disch := first | with_reducible assumption | omega | (simp only [zS, zA, seval, wac, zD] <;> omega) | fail) only [zS, argl, insA, Go.Den.wm, ww, wbb, looks, wxb, wnb, idOf, riA, seval, Go.Den.wu, kK, wri, *, zT]) | (with_reducible (first | apply z1 | apply z2 | apply z3 | apply z4) <;> intro hq <;> (try simp only [zH] at hq) <;> (try (exfalso; omega))) | (with_reducible apply z5; (case hl => (repeat (first | exact .nil | with_reducible apply z6 | with_reducible apply z7))); (case h => kernel_rfl))))
 | succ m ih =>
  intro k hk hlo
  have hk2 : (k : Int) ≤ hi := by omega
  have h := ih (k + 1) (by omega) (by omega)
  rw [show k + 1 - lo = k - lo + 1 by omega, rng_succ, show lo + (k - lo) = k by omega, show k - lo + 1 + m = k - lo + (m + 1) by omega] at h
  have h1 := ev_Of1 k (by omega)
  have h2 := wnc [rng lo (k - lo), one k] (by simp)
  rw [wfc, show ([rng lo (k - lo), one k] : List (BitVec 256)).length = 2 from rfl] at h2
  have hfz := wcd [rng lo (k - lo), one k]
  generalize rng lo (k - lo + (m + 1)) = R at *
  generalize rng lo (k - lo) = t at *
  clear ih
  refine wbc wgj ?_
  unfold wni
  (repeat' (first | (simp -implicitDefEqProofs (maxSteps := 2000000) (disch := first | with_reducible assumption | omega | (simp only [zS, zA, seval, wac, wcd, wh, zD, s2l, s2n, s2s, s3l, s3n, s3s] <;> omega) | fail) only [zS, argl, insA, Go.Den.wm, ww, wbb, looks, wxb, wnb, idOf, riA, seval, kK, wri, wsc, wwe, wh, *, zT, s2l, s2n, s2s, s3l, s3n, s3s]) | (with_reducible (first | apply z1 | apply z2 | apply z3 | apply z4) <;> intro hq <;> (try simp only [zH] at hq) <;> (try (exfalso; omega))) | (with_reducible apply z5; (case hl => (repeat (first | exact .nil | with_reducible apply z6 | with_reducible apply z7))); (case h => kernel_rfl))))
  all_goals exact h
theorem wdz (lo hi : Nat) (hl : lo < 256) (hh : hi < 256) : lim Try.prog cfg (.call 42 [.int .u8 lo, .int .u8 hi]) (HP []) = some (.val (sV (rng lo (hi + 1 - lo))), HP []) := by
 have h := wcob lo hi hl hh 0#256 (hi + 1 - lo) lo rfl (Nat.le_refl _)
 rw [Nat.sub_self, Nat.zero_add, show rng lo 0 = 0#256 from rfl] at h
 unfold bS at h
 rw [show setC 0#256 = [.int .u64 0, .int .u64 0, .int .u64 0, .int .u64 0] from rfl] at h
 generalize rng lo (hi + 1 - lo) = R at *
 refine wfb hc wor (Nat.le_of_ble_eq_true rfl) (Nat.le_of_ble_eq_true rfl) ?_
 unfold wsp
 (repeat' (first | (simp -implicitDefEqProofs (maxSteps := 2000000) (disch := first | with_reducible assumption | omega | (simp only [zS, zA, seval, wac, wh, zD] <;> omega) | fail) only [zS, argl, insA, Go.Den.wm, ww, wbb, looks, wxb, wnb, idOf, riA, seval, Go.Den.wu, kK, wri, wh, *, zT]) | (with_reducible (first | apply z1 | apply z2 | apply z3 | apply z4) <;> intro hq <;> (try simp only [zH] at hq) <;> (try (exfalso; omega)))))
theorem ev_less (a b : BitVec 256) : lim Try.prog cfg (.call 73 [sV a, sV b]) (HP []) = some (.val (sV (~~~(~~~a ||| b))), HP []) := by
 have h1 := wmcb a
 have h2 := wnc [~~~a, b] (by simp)
 rw [wfc, show ([~~~a, b] : List (BitVec 256)).length = 2 from rfl] at h2
 have h3 := wmcb (~~~a ||| b)
 refine wfb hc wdu (Nat.le_of_ble_eq_true rfl) (Nat.le_of_ble_eq_true rfl) ?_
 unfold wfr
 (repeat' (first | (simp -implicitDefEqProofs (maxSteps := 2000000) (disch := first | with_reducible assumption | omega | (simp only [zS, zA, seval, wac, wcd, wh, zD, s2l, s2n, s2s, s3l, s3n, s3s] <;> omega) | fail) only [zS, argl, insA, Go.Den.wm, ww, wbb, looks, wxb, wnb, idOf, riA, seval, kK, wsc, wh, *, zT, s2l, s2n, s2s, s3l, s3n, s3s]) | (with_reducible (first | apply z1 | apply z2 | apply z3 | apply z4) <;> intro hq <;> (try simp only [zH] at hq) <;> (try (exfalso; omega))) | (with_reducible apply z5; (case hl => (repeat (first | exact .nil | with_reducible apply z6 | with_reducible apply z7))); (case h => kernel_rfl))))
theorem wrxb (s : BitVec 256) (x : Nat) (hx : x < 256) : lim Try.prog cfg (.call 47 [sV s, .int .u8 x]) (HP []) = some (.val (.bool (s.getLsbD x)), HP []) := by
 refine wfb hc wbo (Nat.le_of_ble_eq_true rfl) (Nat.le_of_ble_eq_true rfl) ?_
 unfold wdl
 have h1 : BitVec.ofInt (IntKind.bits .u64) 1 = BitVec.ofInt (IntKind.bits .u64) (((1#64).toNat : Nat) : Int) := rfl
 (repeat' (first | (simp -implicitDefEqProofs (maxSteps := 2000000) (disch := first | with_reducible assumption | omega | (simp only [zS, zA, seval, zD] <;> omega) | fail) only [zS, argl, insA, Go.Den.wm, ww, wbb, looks, wxb, wnb, idOf, riA, seval, Go.Den.wu, kK, wjj, wrgb, h1, wvwb, wwwb, *, zT]) | (with_reducible (first | apply z1 | apply z2 | apply z3 | apply z4) <;> intro hq <;> (try simp only [zH] at hq) <;> (try (exfalso; omega)))))
 have e1 : ((x : Int) / 64).toNat = x / 64 := by omega
 have e2 : ((x : Int) % 64).toNat = x % 64 := by omega
 rw [e1, e2, wxwb s x hx]
theorem ev_Put (s : BitVec 256) (x : Nat) (hx : x < 256) : lim Try.prog cfg (.call 75 [sV s, .int .u8 x]) (HP []) = some (.val (sV (s ||| one x)), HP []) := by
 have e1 : ((x : Int) / 64).toNat = x / 64 := by omega
 have e2 : ((x : Int) % 64).toNat = x % 64 := by omega
 have hs : IntKind.wrap .u64 (1 * 2 ^ (min (x % 64) (IntKind.bits .u64))) = ((1#64 <<< (x % 64)).toNat : Nat) := by
  have := wsgb (b := ((x % 64 : Nat) : Int)) (by omega) (by omega)
  rwa [Int.toNat_natCast] at this
 have ho := wvib (wd s (x / 64)) (1#64 <<< (x % 64))
 have hset := wup s (show x / 64 < 4 by omega) (wd s (x / 64) ||| (1#64 <<< (x % 64)))
 rw [← or_one s x hx]
 refine wfb hc wco (Nat.le_of_ble_eq_true rfl) (Nat.le_of_ble_eq_true rfl) ?_
 unfold wgl
 (repeat' (first | (simp -implicitDefEqProofs (maxSteps := 2000000) (disch := first | with_reducible assumption | omega | (simp only [zS, zA, seval, wac, wh, zD] <;> omega) | fail) only [zS, argl, insA, Go.Den.wm, ww, wbb, looks, wxb, wnb, idOf, riA, seval, Go.Den.wu, kK, wjj, wh, *, zT]) | (with_reducible (first | apply z1 | apply z2 | apply z3 | apply z4) <;> intro hq <;> (try simp only [zH] at hq) <;> (try (exfalso; omega)))))
end
end Go.Proofs.Ytjihbfdbgamcdaa
namespace Go.Den
noncomputable section
def wub : BitVec 256 := rng 65 26
def wvb : BitVec 256 := rng 97 26
def wlb : BitVec 256 := rng 48 10
def whd : BitVec 256 := rng 33 94
def wwb : BitVec 256 := wub ||| wvb
def wjd : BitVec 256 := wwb ||| wlb
def wge : BitVec 256 := ofL [32, 9]
def lessS (a b : BitVec 256) : BitVec 256 := ~~~(~~~a ||| b)
def wsxb : List (List UInt8 × BitVec 256) := [
 ([97, 108, 112, 104, 97], wwb), ([100, 105, 103, 105, 116], wlb), ([97, 108, 110, 117, 109], wjd), ([117, 112, 112, 101, 114], wub), ([108, 111, 119, 101, 114], wvb),
 ([115, 112, 97, 99, 101], ofL [32] ||| rng 9 5), ([98, 108, 97, 110, 107], wge), ([112, 117, 110, 99, 116], lessS whd wjd), ([112, 114, 105, 110, 116], rng 32 95), ([103, 114, 97, 112, 104], whd),
 ([99, 110, 116, 114, 108], rng 0 32 ||| ofL [127]), ([120, 100, 105, 103, 105, 116], joinL [wlb, rng 97 6, rng 65 6])]
def whr (s : List UInt8) : BitVec 256 × Bool := match wsxb.find? (·.1 == s) with
 | some p => (p.2, true)
 | none => (0#256, false)
def inB (lo hi x : Nat) : Bool := decide (lo ≤ x) && decide (x ≤ hi)
def rclL : List (List UInt8 × (Nat → Bool)) := [
 ([97, 108, 112, 104, 97], fun x => inB 65 90 x || inB 97 122 x), ([100, 105, 103, 105, 116], fun x => inB 48 57 x), ([97, 108, 110, 117, 109], fun x => inB 65 90 x || (inB 97 122 x || inB 48 57 x)), ([117, 112, 112, 101, 114], fun x => inB 65 90 x), ([108, 111, 119, 101, 114], fun x => inB 97 122 x),
 ([115, 112, 97, 99, 101], fun x => decide (x = 32) || inB 9 13 x), ([98, 108, 97, 110, 107], fun x => decide (x = 32) || decide (x = 9)), ([112, 117, 110, 99, 116], fun x => inB 33 126 x && (!inB 65 90 x && (!inB 97 122 x && !inB 48 57 x))), ([112, 114, 105, 110, 116], fun x => inB 33 126 x || decide (x = 32)), ([103, 114, 97, 112, 104], fun x => inB 33 126 x),
 ([99, 110, 116, 114, 108], fun x => decide (x < 32) || decide (x = 127)), ([120, 100, 105, 103, 105, 116], fun x => inB 48 57 x || (inB 97 102 x || inB 65 70 x))]
def rclF (s : List UInt8) : Nat → Bool := match rclL.find? (·.1 == s) with
 | some p => p.2
 | none => fun _ => false
def gath (f : Nat → Bool) : Nat → BitVec 256
 | 0 => 0#256
 | n + 1 => if f n then gath f n ||| one n else gath f n
theorem gath_pos {f : Nat → Bool} {n : Nat} (h : f n = true) : gath f (n + 1) = gath f n ||| one n := by rw [gath, if_pos h]
theorem wzib {f : Nat → Bool} {n : Nat} (h : f n = false) : gath f (n + 1) = gath f n := by rw [gath, if_neg (by rw [h]; simp)]
theorem gath_no : ∀ n, gath (fun _ => false) n = 0#256 := by
 intro n
 induction n with
 | zero => rfl
 | succ n ih => rw [wzib rfl, ih]
theorem wncb (s : List UInt8) : whr s = (gath (rclF s) 256, decide (gath (rclF s) 256 ≠ 0#256)) := by
 by_cases h0 : s = ([97, 108, 112, 104, 97] : List UInt8)
 ·subst h0; kernel_rfl
 by_cases h1 : s = ([100, 105, 103, 105, 116] : List UInt8)
 ·subst h1; kernel_rfl
 by_cases h2 : s = ([97, 108, 110, 117, 109] : List UInt8)
 ·subst h2; kernel_rfl
 by_cases h3 : s = ([117, 112, 112, 101, 114] : List UInt8)
 ·subst h3; kernel_rfl
 by_cases h4 : s = ([108, 111, 119, 101, 114] : List UInt8)
 ·subst h4; kernel_rfl
 by_cases h5 : s = ([115, 112, 97, 99, 101] : List UInt8)
 ·subst h5; kernel_rfl
 by_cases h6 : s = ([98, 108, 97, 110, 107] : List UInt8)
 ·subst h6; kernel_rfl
 by_cases h7 : s = ([112, 117, 110, 99, 116] : List UInt8)
 ·subst h7; kernel_rfl
 by_cases h8 : s = ([112, 114, 105, 110, 116] : List UInt8)
 ·subst h8; kernel_rfl
 by_cases h9 : s = ([103, 114, 97, 112, 104] : List UInt8)
 ·subst h9; kernel_rfl
 by_cases h10 : s = ([99, 110, 116, 114, 108] : List UInt8)
 ·subst h10; kernel_rfl
 by_cases h11 : s = ([120, 100, 105, 103, 105, 116] : List UInt8)
 ·subst h11; kernel_rfl
 have hc : whr s = (0#256, false) := by
  simp [whr, wsxb, Ne.symm h0, Ne.symm h1, Ne.symm h2, Ne.symm h3, Ne.symm h4, Ne.symm h5, Ne.symm h6, Ne.symm h7, Ne.symm h8, Ne.symm h9, Ne.symm h10, Ne.symm h11]
 have hr : rclF s = fun _ => false := by
  simp [rclF, rclL, Ne.symm h0, Ne.symm h1, Ne.symm h2, Ne.symm h3, Ne.symm h4, Ne.symm h5, Ne.symm h6, Ne.symm h7, Ne.symm h8, Ne.symm h9, Ne.symm h10, Ne.symm h11]
 rw [hc, hr, gath_no]
 rfl
end
end Go.Den
namespace Go.Den
noncomputable section
variable {P : Program}
end
end Go.Den
namespace Go.Den
noncomputable section
theorem wtxb {h : List ABlk} (hh : h.length ≤ 1099511627774) {elem size bytes n : Nat} {new : List Value} (hn : n ≤ 16777216) (hb : bytes ≤ 1048576) (ha : wdd (nfL new) = true) :
  appN h elem size bytes (.slice none 0 0) n new = .eff (FO h.length n (nfL new)) (HP (h ++ [.tok n elem size])) := by
 show (bif roomy n bytes then wxf true (HP h) elem size new n else .none) = _
 have h1 : roomy n bytes = true := by unfold roomy; rw [nble, nble, decide_eq_true hn, decide_eq_true hb]; rfl
 rw [h1, cond_true]
 show (bif wpu (HP h) (nfL new) then ARes.eff (FO (HP h).n n (nfL new)) ((HP h).push (.tok n elem size)) else .none) = _
 have h2 : wpu (HP h) (nfL new) = true := by
  unfold wpu
  rw [wlh ha, wop ha, HP_n, wkg hh]; rfl
 rw [h2, cond_true, HP_n, wli]
end
end Go.Den
namespace Go.Proofs.Ytjihbfdbgamcdaa
set_option linter.unusedVariables false
set_option linter.unusedSimpArgs false
open Go.Den
noncomputable section
theorem ev_Ones (v : BitVec 64) : lim Try.prog cfg (.call 76 [.int .u64 (v.toNat : Nat)]) (HP []) = some (.val (.int .i64 (swar v : Nat)), HP []) := by
 refine wfb hc wpi (Nat.le_of_ble_eq_true rfl) (Nat.le_of_ble_eq_true rfl) ?_
 unfold wfg
 (repeat' (first | (simp -implicitDefEqProofs (maxSteps := 2000000) (disch := first | with_reducible assumption | omega | (simp only [zS, zA, seval] <;> omega) | fail) only [zS, argl, insA, Go.Den.wm, ww, wbb, looks, wxb, wnb, idOf, riA, seval, Go.Den.wu, kK, shr_u64n, and_u64i, add_u64, and_i64, Int.reduceToNat, *]) | (with_reducible (first | apply z1 | apply z2 | apply z3 | apply z4) <;> intro hq <;> (try simp only [zH] at hq) <;> (try (exfalso; omega)))))
 all_goals rfl
theorem wuxb (v : BitVec 64) : swar v < 128 := Nat.mod_lt _ (by omega)
def cntW (s : BitVec 256) : Nat → Nat
 | 0 => 0
 | n + 1 => cntW s n + swar (wd s n)
theorem cntW_le (s : BitVec 256) (n : Nat) : cntW s n ≤ 128 * n := by
 induction n with
 | zero => exact Nat.le_refl _
 | succ n ih => have := wuxb (wd s n); simp only [cntW]; omega
def cnt (s : BitVec 256) : Nat := cntW s 4
theorem wdob (s : BitVec 256) : ∀ (m i : Nat), i + m = 4 →
  lim Try.prog cfg (.loop 50 0 (wxh 0) (SE (EJ 16 G0) [(7, .int .i64 i), (6, sV s), (3, .int .i64 (cntW s i : Nat))])) (HP []) = some (.code (.exit 0) (SE (EJ 16 G0) [(3, .int .i64 (cntW s 4 : Nat))]), HP []) := by
 intro m
 induction m with
 | zero =>
  intro i hi
  obtain rfl : i = 4 := by omega
  rw [show ((4 : Nat) : Int) = 4 from rfl]
  refine wbc whj ?_
  unfold woi
  (repeat' (first | (simp -implicitDefEqProofs (maxSteps := 2000000) (disch := first | with_reducible assumption | omega | (simp only [zS, zA, seval, wac, zD] <;> omega) | fail) only [zS, argl, insA, Go.Den.wm, ww, wbb, looks, wxb, wnb, idOf, riA, seval, Go.Den.wu, kK, wsi, *, zT]) | (with_reducible (first | apply z1 | apply z2 | apply z3 | apply z4) <;> intro hq <;> (try simp only [zH] at hq) <;> (try (exfalso; omega)))))
 | succ m ih =>
  intro i hi
  have h := ih (i + 1) (by omega)
  have ho := ev_Ones (wd s i)
  have hw := wuxb (wd s i)
  have hcw := cntW_le s i
  have e : ((cntW s (i + 1) : Nat) : Int) = (cntW s i : Int) + (swar (wd s i) : Nat) := by simp only [cntW]; omega
  rw [e] at h
  clear ih e
  have hi4 : i < 4 := by omega
  generalize swar (wd s i) = w at *
  generalize cntW s i = c at *
  generalize cntW s 4 = R at *
  refine wbc whj ?_
  unfold woi
  (repeat' (first | (simp -implicitDefEqProofs (maxSteps := 2000000) (disch := first | with_reducible assumption | omega | (simp only [zS, zA, seval, wac, wh, zD] <;> omega) | fail) only [zS, argl, insA, Go.Den.wm, ww, wbb, looks, wxb, wnb, idOf, riA, seval, Go.Den.wu, kK, wsi, wjj, wh, *, zT]) | (with_reducible (first | apply z1 | apply z2 | apply z3 | apply z4) <;> intro hq <;> (try simp only [zH] at hq) <;> (try (exfalso; omega)))))
  all_goals exact h
theorem wvp (s : BitVec 256) : lim Try.prog cfg (.call 50 [sV s]) (HP []) = some (.val (.int .i64 (cnt s : Nat)), HP []) := by
 have h := wdob s 4 0 rfl
 rw [show ((0 : Nat) : Int) = 0 from rfl, show ((cntW s 0 : Nat) : Int) = 0 from rfl] at h
 unfold cnt
 generalize cntW s 4 = R at *
 refine wfb hc wpr (Nat.le_of_ble_eq_true rfl) (Nat.le_of_ble_eq_true rfl) ?_
 unfold wtp
 (repeat' (first | (simp -implicitDefEqProofs (maxSteps := 2000000) (disch := first | with_reducible assumption | omega | (simp only [zS, zA, seval, wac, wh, zD] <;> omega) | fail) only [zS, argl, insA, Go.Den.wm, ww, wbb, looks, wxb, wnb, idOf, riA, seval, Go.Den.wu, kK, wsi, wh, *, zT]) | (with_reducible (first | apply z1 | apply z2 | apply z3 | apply z4) <;> intro hq <;> (try simp only [zH] at hq) <;> (try (exfalso; omega)))))
def mem (s : BitVec 256) (i : Nat) : List Nat := (List.range i).filter s.getLsbD
theorem wqq {s : BitVec 256} {i : Nat} (h : s.getLsbD i = true) : mem s (i + 1) = mem s i ++ [i] := by
 simp [mem, List.range_succ, List.filter_append, h]
theorem wgu {s : BitVec 256} {i : Nat} (h : s.getLsbD i = false) : mem s (i + 1) = mem s i := by
 simp [mem, List.range_succ, List.filter_append, h]
theorem weo (s : BitVec 256) (i : Nat) : (mem s i).length ≤ i := by
 have := List.length_filter_le s.getLsbD (List.range i)
 simpa [mem] using this
def byC (l : List Nat) : List Value := l.map fun x => .int .u8 (x : Nat)
theorem wkb {l : List Nat} : (byC l).length = l.length := List.length_map ..
theorem byC_snoc {l : List Nat} {x : Nat} : byC (l ++ [x]) = byC l ++ [.int .u8 (x : Nat)] := by rw [byC, List.map_append]; rfl
theorem wds (l : List Nat) : wdd (byC l) = true := by
 induction l with
 | nil => rfl
 | cons a l ih => show (wml (.int .u8 a) && wdd (byC l)) = true; rw [ih]; rfl
theorem wsg (l : List Nat) : FzL (byC l) := fzl (wds l)
def byH (l : List Nat) : List ABlk := if l = [] then [] else [.tok l.length 5 1]
theorem bytes_C (s : BitVec 256) : ∀ (m i : Nat), i + m = 256 → mem s i ≠ [] →
  lim Try.prog cfg (.loop 45 0 (wng 0) (SE (EJ 19 G0) [(5, .int .i64 i), (3, FO 1 (mem s i).length (byC (mem s i))), (1, pS 0)])) (HP [bS s, .tok (mem s i).length 5 1]) = some (.code (.exit 0) (SE (EJ 19 G0) [(3, FO 0 (mem s 256).length (byC (mem s 256)))]), HP [.tok (mem s 256).length 5 1]) := by
 intro m
 induction m with
 | zero =>
  intro i hi hne
  obtain rfl : i = 256 := by omega
  rw [show ((256 : Nat) : Int) = 256 from rfl]
  generalize mem s 256 = R at *
  refine wbc wfd ?_
  unfold wvd
  (repeat' (first | (simp -implicitDefEqProofs (maxSteps := 2000000) (disch := first | with_reducible assumption | omega | (simp only [zS, zA, seval, wac, wkb, zD] <;> omega) | fail) only [zS, argl, insA, Go.Den.wm, ww, wbb, looks, wxb, wnb, idOf, riA, seval, Go.Den.wu, kK, wbd, wkb, *, zT]) | (with_reducible (first | apply z1 | apply z2 | apply z3 | apply z4) <;> intro hq <;> (try simp only [zH] at hq) <;> (try (exfalso; omega)))))
 | succ m ih =>
  intro i hi hne
  have hh := whl s i (by omega)
  have hm := weo s i
  have hpos : 0 < (mem s i).length := List.length_pos_iff.2 hne
  cases hb : s.getLsbD i with
  | true =>
   rw [hb] at hh
   have h := ih (i + 1) (by omega) (by rw [wqq hb]; simp)
   rw [wqq hb, byC_snoc, List.length_append, List.length_singleton] at h
   generalize mem s 256 = R at *
   generalize mem s i = l at *
   clear ih
   refine wbc wfd ?_
   unfold wvd
   (repeat' (first | (simp -implicitDefEqProofs (maxSteps := 2000000) (disch := first | with_reducible assumption | omega | (simp only [zS, zA, seval, wac, wkb, wh, zD] <;> omega) | fail) only [zS, argl, insA, Go.Den.wm, ww, wbb, looks, wxb, wnb, idOf, riA, seval, Go.Den.wu, kK, wbd, wkb, wh, *, zT]) | (with_reducible (first | apply z1 | apply z2 | apply z3 | apply z4) <;> intro hq <;> (try simp only [zH] at hq) <;> (try (exfalso; omega)))))
   all_goals exact h
  | false =>
   rw [hb] at hh
   have h := ih (i + 1) (by omega) (by rw [wgu hb]; exact hne)
   rw [wgu hb] at h
   generalize mem s 256 = R at *
   generalize mem s i = l at *
   clear ih
   refine wbc wfd ?_
   unfold wvd
   (repeat' (first | (simp -implicitDefEqProofs (maxSteps := 2000000) (disch := first | with_reducible assumption | omega | (simp only [zS, zA, seval, wac, wkb, wh, zD] <;> omega) | fail) only [zS, argl, insA, Go.Den.wm, ww, wbb, looks, wxb, wnb, idOf, riA, seval, Go.Den.wu, kK, wbd, wkb, wh, *, zT]) | (with_reducible (first | apply z1 | apply z2 | apply z3 | apply z4) <;> intro hq <;> (try simp only [zH] at hq) <;> (try (exfalso; omega)))))
   all_goals exact h
theorem bytes_N (s : BitVec 256) : ∀ (m i : Nat), i + m = 256 → mem s i = [] →
  lim Try.prog cfg (.loop 45 0 (wng 0) (SE (EJ 19 G0) [(5, .int .i64 i), (3, .slice none 0 0), (1, pS 0)])) (HP [bS s]) = some (.code (.exit 0) (SE (EJ 19 G0) [(3, if mem s 256 = [] then .slice none 0 0 else FO 0 (mem s 256).length (byC (mem s 256)))]), HP (byH (mem s 256))) := by
 intro m
 induction m with
 | zero =>
  intro i hi hne
  obtain rfl : i = 256 := by omega
  rw [show ((256 : Nat) : Int) = 256 from rfl, byH, hne, if_pos rfl, if_pos rfl]
  refine wbc wfd ?_
  unfold wvd
  (repeat' (first | (simp -implicitDefEqProofs (maxSteps := 2000000) (disch := first | with_reducible assumption | omega | (simp only [zS, zA, seval, wac, zD] <;> omega) | fail) only [zS, argl, insA, Go.Den.wm, ww, wbb, looks, wxb, wnb, idOf, riA, seval, Go.Den.wu, kK, wbd, *, zT]) | (with_reducible (first | apply z1 | apply z2 | apply z3 | apply z4) <;> intro hq <;> (try simp only [zH] at hq) <;> (try (exfalso; omega)))))
 | succ m ih =>
  intro i hi hne
  have hh := whl s i (by omega)
  cases hb : s.getLsbD i with
  | true =>
   rw [hb] at hh
   have e := wqq hb
   rw [hne, List.nil_append] at e
   have h := bytes_C s m (i + 1) (by omega) (by rw [e]; simp)
   have hne2 : mem s 256 ≠ [] := by
    have : i ∈ mem s 256 := by simp [mem, hb]; omega
    exact List.ne_nil_of_mem this
   rw [byH, if_neg hne2, if_neg hne2]
   rw [e, show byC [i] = [.int .u8 (i : Nat)] from rfl, List.length_singleton] at h
   generalize mem s 256 = R at *
   clear ih e
   refine wbc wfd ?_
   unfold wvd
   (repeat' (first | (simp -implicitDefEqProofs (maxSteps := 2000000) (disch := first | with_reducible assumption | omega | (simp only [zS, zA, seval, wac, wh, zD] <;> omega) | fail) only [zS, argl, insA, Go.Den.wm, ww, wbb, looks, wxb, wnb, idOf, riA, seval, Go.Den.wu, kK, wbd, wh, *, zT]) | (with_reducible (first | apply z1 | apply z2 | apply z3 | apply z4) <;> intro hq <;> (try simp only [zH] at hq) <;> (try (exfalso; omega)))))
   all_goals exact h
  | false =>
   rw [hb] at hh
   have h := ih (i + 1) (by omega) (by rw [wgu hb]; exact hne)
   generalize mem s 256 = R at *
   clear ih
   refine wbc wfd ?_
   unfold wvd
   (repeat' (first | (simp -implicitDefEqProofs (maxSteps := 2000000) (disch := first | with_reducible assumption | omega | (simp only [zS, zA, seval, wac, wh, zD] <;> omega) | fail) only [zS, argl, insA, Go.Den.wm, ww, wbb, looks, wxb, wnb, idOf, riA, seval, Go.Den.wu, kK, wbd, wh, *, zT]) | (with_reducible (first | apply z1 | apply z2 | apply z3 | apply z4) <;> intro hq <;> (try simp only [zH] at hq) <;> (try (exfalso; omega)))))
   all_goals exact h
theorem wez (s : BitVec 256) : lim Try.prog cfg (.call 45 [sV s]) (HP []) = some (.val (FL (mem s 256).length (byC (mem s 256))), HP []) := by
 have h := bytes_N s 256 0 rfl rfl
 rw [show ((0 : Nat) : Int) = 0 from rfl] at h
 have hm := weo s 256
 generalize mem s 256 = R at *
 unfold byH at h
 by_cases hR : R = []
 ·subst hR
  rw [if_pos rfl, if_pos rfl] at h
  rw [show ([] : List Nat).length = 0 from rfl, show byC [] = [] from rfl]
  refine wfb hc wfl (Nat.le_of_ble_eq_true rfl) (Nat.le_of_ble_eq_true rfl) ?_
  unfold wal
  (repeat' (first | (simp -implicitDefEqProofs (maxSteps := 2000000) (disch := first | with_reducible assumption | omega | (simp only [zS, zA, seval, wac, wh, zD] <;> omega) | fail) only [zS, argl, insA, Go.Den.wm, ww, wbb, looks, wxb, wnb, idOf, riA, seval, Go.Den.wu, kK, wbd, wh, *, zT]) | (with_reducible (first | apply z1 | apply z2 | apply z3 | apply z4) <;> intro hq <;> (try simp only [zH] at hq) <;> (try (exfalso; omega)))))
 ·rw [if_neg hR, if_neg hR] at h
  have hpos : 0 < R.length := List.length_pos_iff.2 hR
  refine wfb hc wfl (Nat.le_of_ble_eq_true rfl) (Nat.le_of_ble_eq_true rfl) ?_
  unfold wal
  (repeat' (first | (simp -implicitDefEqProofs (maxSteps := 2000000) (disch := first | with_reducible assumption | omega | (simp only [zS, zA, seval, wac, wh, wkb, wsg, zD] <;> omega) | fail) only [zS, argl, insA, Go.Den.wm, ww, wbb, looks, wxb, wnb, idOf, riA, seval, Go.Den.wu, kK, wbd, wh, wkb, *, zT]) | (with_reducible (first | apply z1 | apply z2 | apply z3 | apply z4) <;> intro hq <;> (try simp only [zH] at hq) <;> (try (exfalso; omega)))))
def onlyB (s : BitVec 256) : Nat := if (mem s 256).length = 1 then (mem s 256).getD 0 0 else 0
theorem wvxb (s : BitVec 256) : lim Try.prog cfg (.call 49 [sV s]) (HP []) = some (.val (.tuple ⟨[.int .u8 (onlyB s : Nat), .bool (decide ((mem s 256).length = 1))]⟩), HP []) := by
 have hb := wez s
 have hm := weo s 256
 unfold onlyB
 generalize mem s 256 = R at *
 by_cases h1 : R.length = 1
 ·obtain ⟨x, rfl⟩ := List.length_eq_one_iff.1 h1
  rw [if_pos h1, decide_eq_true h1]
  rw [show ([x] : List Nat).length = 1 from rfl, show byC [x] = [.int .u8 (x : Nat)] from rfl] at hb
  rw [show ([x] : List Nat).getD 0 0 = x from rfl]
  refine wfb hc wjm (Nat.le_of_ble_eq_true rfl) (Nat.le_of_ble_eq_true rfl) ?_
  unfold wim
  (repeat' (first | (simp -implicitDefEqProofs (maxSteps := 2000000) (disch := first | with_reducible assumption | omega | (simp only [zS, zA, seval, wac, wh, zD] <;> omega) | fail) only [zS, argl, insA, Go.Den.wm, ww, wbb, looks, wxb, wnb, idOf, riA, seval, Go.Den.wu, kK, wh, *, zT]) | (with_reducible (first | apply z1 | apply z2 | apply z3 | apply z4) <;> intro hq <;> (try simp only [zH] at hq) <;> (try (exfalso; omega)))))
 ·rw [if_neg h1, decide_eq_false h1]
  have h2 : ¬ ((R.length : Nat) : Int) = 1 := by omega
  refine wfb hc wjm (Nat.le_of_ble_eq_true rfl) (Nat.le_of_ble_eq_true rfl) ?_
  unfold wim
  (repeat' (first | (simp -implicitDefEqProofs (maxSteps := 2000000) (disch := first | with_reducible assumption | omega | (simp only [zS, zA, seval, wac, wh, wsg, zD] <;> omega) | fail) only [zS, argl, insA, Go.Den.wm, ww, wbb, looks, wxb, wnb, idOf, riA, seval, Go.Den.wu, kK, wh, *, zT]) | (with_reducible (first | apply z1 | apply z2 | apply z3 | apply z4) <;> intro hq <;> (try simp only [zH] at hq) <;> (try (exfalso; omega)))))
theorem wwgb (name : List UInt8) (z : BitVec 256) (hcl : ∀ x : Nat, x < 256 → lim Try.prog cfg (.call 74 [str name, .int .u8 x]) (HP []) = some (.val (.bool (rclF name x)), HP [])) : ∀ (m i : Nat), i + m = 256 →
  lim Try.prog cfg (.loop 44 0 (wff 0) (SE (EJ 22 G0) [(6, .int .i64 i), (4, pS 1), (2, pS 0), (0, str name)])) (HP [bS z, bS (gath (rclF name) i)]) = some (.code (.exit 0) (SE (EJ 22 G0) [(4, pS 1), (2, pS 0)]), HP [bS z, bS (gath (rclF name) 256)]) := by
 intro m
 induction m with
 | zero =>
  intro i hi
  obtain rfl : i = 256 := by omega
  clear hcl
  rw [show ((256 : Nat) : Int) = 256 from rfl]
  generalize gath (rclF name) 256 = R at *
  refine wbc wue ?_
  unfold wje
  (repeat' (first | (simp -implicitDefEqProofs (maxSteps := 2000000) (disch := first | with_reducible assumption | omega | (simp only [zS, zA, seval, wac, zD] <;> omega) | fail) only [zS, argl, insA, Go.Den.wm, ww, wbb, looks, wxb, wnb, idOf, riA, seval, Go.Den.wu, kK, wke, *, zT]) | (with_reducible (first | apply z1 | apply z2 | apply z3 | apply z4) <;> intro hq <;> (try simp only [zH] at hq) <;> (try (exfalso; omega)))))
 | succ m ih =>
  intro i hi
  have hx := hcl i (by omega)
  have h := ih (i + 1) (by omega)
  cases hb : rclF name i with
  | true =>
   rw [hb] at hx
   rw [gath_pos hb] at h
   have hp := ev_Put (gath (rclF name) i) i (by omega)
   generalize gath (rclF name) 256 = R at *
   generalize gath (rclF name) i = t at *
   clear ih hcl hb
   refine wbc wue ?_
   unfold wje
   (repeat' (first | (simp -implicitDefEqProofs (maxSteps := 2000000) (disch := first | with_reducible assumption | omega | (simp only [zS, zA, seval, wac, wh, zD] <;> omega) | fail) only [zS, argl, insA, Go.Den.wm, ww, wbb, looks, wxb, wnb, idOf, riA, seval, Go.Den.wu, kK, wke, wh, *, zT]) | (with_reducible (first | apply z1 | apply z2 | apply z3 | apply z4) <;> intro hq <;> (try simp only [zH] at hq) <;> (try (exfalso; omega)))))
   all_goals exact h
  | false =>
   rw [hb] at hx
   rw [wzib hb] at h
   generalize gath (rclF name) 256 = R at *
   generalize gath (rclF name) i = t at *
   clear ih hcl hb
   refine wbc wue ?_
   unfold wje
   (repeat' (first | (simp -implicitDefEqProofs (maxSteps := 2000000) (disch := first | with_reducible assumption | omega | (simp only [zS, zA, seval, wac, wh, zD] <;> omega) | fail) only [zS, argl, insA, Go.Den.wm, ww, wbb, looks, wxb, wnb, idOf, riA, seval, Go.Den.wu, kK, wke, wh, *, zT]) | (with_reducible (first | apply z1 | apply z2 | apply z3 | apply z4) <;> intro hq <;> (try simp only [zH] at hq) <;> (try (exfalso; omega)))))
   all_goals exact h
end
end Go.Proofs.Ytjihbfdbgamcdaa
namespace Go.Den
noncomputable section
variable {P : Program}
end
end Go.Den
namespace Go.Proofs.Ytjihbfdbgamcdaa
set_option linter.unusedVariables false
set_option linter.unusedSimpArgs false
open Go.Den
noncomputable section
end
end Go.Proofs.Ytjihbfdbgamcdaa
namespace Go.Den
noncomputable section
def addF : List St → List St → List St
 | l, [] => l
 | l, x :: xs => addF (if x ∈ l then l else l ++ [x]) xs
theorem wocb {l xs : List St} {x : St} : addF l (x :: xs) = addF (if x ∈ l then l else l ++ [x]) xs := rfl
theorem addF_mem {y : St} : ∀ (xs l : List St), y ∈ addF l xs ↔ y ∈ l ∨ y ∈ xs := by
 intro xs
 induction xs with
 | nil => intro l; simp [addF]
 | cons x xs ih =>
  intro l
  rw [wocb, ih]
  by_cases h : x ∈ l
  ·rw [if_pos h]
   constructor
   ·rintro (h1 | h1)
    ·exact .inl h1
    ·exact .inr (List.mem_cons_of_mem _ h1)
   ·rintro (h1 | h1)
    ·exact .inl h1
    ·rcases List.mem_cons.1 h1 with rfl | h1
     ·exact .inl h
     ·exact .inr h1
  ·rw [if_neg h]
   simp only [List.mem_append, List.mem_cons, List.not_mem_nil, or_false]
   constructor
   ·rintro ((h1 | h1) | h1)
    ·exact .inl h1
    ·exact .inr (.inl h1)
    ·exact .inr (.inr h1)
   ·rintro (h1 | h1 | h1)
    ·exact .inl (.inl h1)
    ·exact .inl (.inr h1)
    ·exact .inr h1
theorem weob : ∀ (xs l : List St), l.Nodup → (addF l xs).Nodup := by
 intro xs
 induction xs with
 | nil => intro l h; exact h
 | cons x xs ih =>
  intro l h
  rw [wocb]
  by_cases hx : x ∈ l
  ·rw [if_pos hx]; exact ih l h
  ·rw [if_neg hx]
   refine ih _ ?_
   rw [List.nodup_append]
   refine ⟨h, by simp, ?_⟩
   intro a ha b hb
   rw [List.mem_singleton] at hb
   subst hb
   intro hab
   subst hab
   exact hx ha
def keyF (mn mx n : Int) (x : St) : Int × St := (if mx < 0 then min n mn else n, x)
def onF (w : St → List St) (mn mx : Int) : Nat → Int → St → List (Int × St) × List St → List (Int × St) × List St
 | 0, _, _, a => a
 | k + 1, n, x, a =>
  if keyF mn mx n x ∈ a.1 then a
  else
   let b := if mx < 0 ∨ n < mx then (w x).foldl (fun b y => if y.1 ≠ x.1 ∨ n < mn then onF w mn mx k (n + 1) y b else b) (a.1 ++ [keyF mn mx n x], a.2) else (a.1 ++ [keyF mn mx n x], a.2)
   if n ≥ mn then (b.1, addF b.2 [x]) else b
def backF (s : List UInt8) (n : Int) (x : St) : List St :=
 if x.2.at (n.toNat * 2) < 0 then []
 else if x.2.at (n.toNat * 2 + 1) - x.2.at (n.toNat * 2) > s.length - x.1 then []
 else if (s.take (x.2.at (n.toNat * 2 + 1)).toNat).drop (x.2.at (n.toNat * 2)).toNat ≠ (s.take (x.1 + (x.2.at (n.toNat * 2 + 1) - x.2.at (n.toNat * 2))).toNat).drop x.1.toNat then []
 else [(x.1 + (x.2.at (n.toNat * 2 + 1) - x.2.at (n.toNat * 2)), x.2)]
def fromF (w : St → List St) (l : List St) : List St := l.foldl (fun out y => addF out (w y)) []
def groupW (n : Int) (x : St) (l : List St) : List St := l.foldl (fun out y => addF out [(y.1, (y.2.put (n.toNat * 2) x.1).put (n.toNat * 2 + 1) y.1)]) []
mutual
def waysF (s : List UInt8) (bol : Bool) : Rx → St → List St
 | .mk k mn mx n set kids, x =>
  if k = 1 then (if x.1 < s.length ∧ set.getLsbD (s.getD x.1.toNat 0).toNat = true then [(x.1 + 1, x.2)] else [])
  else if k = 7 then (if x.1 = 0 ∧ bol = true then [x] else [])
  else if k = 8 then (if x.1 = s.length then [x] else [])
  else if k = 6 then backF s n x
  else if k = 5 then groupW n x (kidF s bol kids x)
  else if k = 3 then altF s bol kids x []
  else if k = 2 then catF s bol kids [x]
  else if k = 4 then (onF (fun y => kidF s bol kids y) mn mx 100 0 x ([], [])).2
  else []
def kidF (s : List UInt8) (bol : Bool) : List Rx → St → List St
 | [], _ => []
 | r :: _, x => waysF s bol r x
def altF (s : List UInt8) (bol : Bool) : List Rx → St → List St → List St
 | [], _, out => out
 | r :: rs, x, out => altF s bol rs x (addF out (waysF s bol r x))
def catF (s : List UInt8) (bol : Bool) : List Rx → List St → List St
 | [], l => l
 | r :: rs, l => catF s bol rs (fromF (fun y => waysF s bol r y) l)
end
def spanOk (len : Nat) (a b : Int) : Prop := (a = -1 ∧ b = -1) ∨ (0 ≤ a ∧ a ≤ b ∧ b ≤ len)
structure GdS (len : Nat) (x : St) : Prop where
 lo : 0 ≤ x.1
 hi : x.1 ≤ len
 m0 : x.2.at 0 = -1
 m1 : x.2.at 1 = -1
 sp : ∀ g : Nat, 1 ≤ g → g ≤ 3 → spanOk len (x.2.at (g * 2)) (x.2.at (g * 2 + 1))
theorem GdS.move {len : Nat} {x : St} (h : GdS len x) {a : Int} (h1 : 0 ≤ a) (h2 : a ≤ len) : GdS len (a, x.2) := ⟨h1, h2, h.m0, h.m1, h.sp⟩
structure RwS (len : Nat) (at0 : Int) (l : List St) : Prop where
 nd : l.Nodup
 good : ∀ y ∈ l, GdS len y ∧ at0 ≤ y.1
theorem RwS.nil {len : Nat} {a : Int} : RwS len a [] := ⟨List.nodup_nil, fun y h => (by cases h)⟩
theorem RwS.one {len : Nat} {a : Int} {x : St} (h : GdS len x) (ha : a ≤ x.1) : RwS len a [x] := ⟨by simp, fun y hy => by rw [List.mem_singleton] at hy; subst hy; exact ⟨h, ha⟩⟩
theorem RwS.add {len : Nat} {a : Int} {l xs : List St} (h : RwS len a l) (hx : ∀ y ∈ xs, GdS len y ∧ a ≤ y.1) : RwS len a (addF l xs) :=
 ⟨weob _ _ h.nd, fun y hy => by rcases (addF_mem _ _).1 hy with h1 | h1; exact h.good y h1; exact hx y h1⟩
theorem RwS.fold {len : Nat} {a : Int} {α : Type} (f : α → List St) : ∀ (l : List α), (∀ z ∈ l, ∀ y ∈ f z, GdS len y ∧ a ≤ y.1) → ∀ out, RwS len a out → RwS len a (l.foldl (fun out z => addF out (f z)) out) := by
 intro l
 induction l with
 | nil => intro _ out h; exact h
 | cons z l ih =>
  intro hf out h
  exact ih (fun z' hz' => hf z' (List.mem_cons_of_mem _ hz')) _ (h.add (hf z (List.mem_cons_self ..)))
theorem nodup_le {α : Type} [DecidableEq α] : ∀ (l L : List α), l.Nodup → (∀ x ∈ l, x ∈ L) → l.length ≤ L.length := by
 intro l
 induction l with
 | nil => intro L _ _; exact Nat.zero_le _
 | cons a l ih =>
  intro L hn hs
  rw [List.nodup_cons] at hn
  have ha := hs a (List.mem_cons_self ..)
  have h1 := ih (L.erase a) hn.2 (fun x hx => by
   refine (List.mem_erase_of_ne ?_).2 (hs x (List.mem_cons_of_mem _ hx))
   intro h
   subst h
   exact hn.1 hx)
  rw [List.length_erase_of_mem ha] at h1
  have := List.length_pos_of_mem ha
  rw [List.length_cons]
  omega
theorem wfz {α β : Type} {f : α → List β} {k : Nat} (h : ∀ a, (f a).length = k) (l : List α) : (l.flatMap f).length = l.length * k := by
 induction l with
 | nil => simp
 | cons a l ih => rw [List.flatMap_cons, List.length_append, h, ih, List.length_cons, Nat.add_mul]; omega
def wtg (len : Nat) : List (Int × Int) := (-1, -1) :: (List.range (len + 1)).flatMap fun (a : Nat) => (List.range (len + 1 - a)).map fun (d : Nat) => ((a : Int), ((a + d : Nat) : Int))
def allSt (len : Nat) : List St := (List.range (len + 1)).flatMap fun (a : Nat) => (wtg len).flatMap fun p => (wtg len).flatMap fun q => (wtg len).map fun r => ((a : Int), ⟨[-1, -1, p.1, p.2, q.1, q.2, r.1, r.2], rfl⟩)
theorem whu {len : Nat} {a b : Int} (h : spanOk len a b) : (a, b) ∈ wtg len := by
 unfold wtg
 rcases h with ⟨rfl, rfl⟩ | ⟨h1, h2, h3⟩
 ·exact List.mem_cons_self ..
 ·refine List.mem_cons_of_mem _ (List.mem_flatMap.2 ⟨a.toNat, List.mem_range.2 (by omega), List.mem_map.2 ⟨(b - a).toNat, List.mem_range.2 (by omega), ?_⟩⟩)
  rw [Prod.mk.injEq]
  exact ⟨by omega, by omega⟩
theorem all_mem {len : Nat} {x : St} (h : GdS len x) : x ∈ allSt len := by
 obtain ⟨a, ⟨l, hl⟩⟩ := x
 match l, hl with
 | [c0, c1, c2, c3, c4, c5, c6, c7], hl =>
  obtain ⟨h1, h2, h3, h4, h5⟩ := h
  have e0 : c0 = -1 := h3
  have e1 : c1 = -1 := h4
  subst e0 e1
  have s1 := whu (h5 1 (by omega) (by omega))
  have s2 := whu (h5 2 (by omega) (by omega))
  have s3 := whu (h5 3 (by omega) (by omega))
  have h1 : 0 ≤ a := h1
  have h2 : a ≤ len := h2
  refine List.mem_flatMap.2 ⟨a.toNat, List.mem_range.2 (by omega), List.mem_flatMap.2 ⟨_, s1, List.mem_flatMap.2 ⟨_, s2, List.mem_map.2 ⟨_, s3, ?_⟩⟩⟩⟩
  rw [Prod.mk.injEq]
  exact ⟨by omega, rfl⟩
theorem wwxb : ∀ len : Nat, len ≤ 12 → (wtg len).length ≤ 92 := by
 intro len h
 match len, h with
 | 0, _ => decide
 | 1, _ => decide
 | 2, _ => decide
 | 3, _ => decide
 | 4, _ => decide
 | 5, _ => decide
 | 6, _ => decide
 | 7, _ => decide
 | 8, _ => decide
 | 9, _ => decide
 | 10, _ => decide
 | 11, _ => decide
 | 12, _ => decide
theorem row_len {len : Nat} {a : Int} {l : List St} (h : RwS len a l) (hl : len ≤ 12) : l.length ≤ 11000000 := by
 have h1 := nodup_le l (allSt len) h.nd (fun x hx => all_mem (h.good x hx).1)
 have h2 : (allSt len).length = (len + 1) * ((wtg len).length * ((wtg len).length * (wtg len).length)) := by
  unfold allSt
  rw [wfz (k := (wtg len).length * ((wtg len).length * (wtg len).length)), List.length_range]
  intro a
  rw [wfz (k := (wtg len).length * (wtg len).length)]
  intro p
  rw [wfz (k := (wtg len).length)]
  intro q
  rw [List.length_map]
 have h3 := wwxb len hl
 have h4 : (len + 1) * ((wtg len).length * ((wtg len).length * (wtg len).length)) ≤ 13 * (92 * (92 * 92)) :=
  Nat.mul_le_mul (by omega) (Nat.mul_le_mul h3 (Nat.mul_le_mul h3 h3))
 omega
end
end Go.Den
namespace Go.Proofs.Ytjihbfdbgamcdaa
set_option linter.unusedVariables false
set_option linter.unusedSimpArgs false
open Go.Den
noncomputable section
end
end Go.Proofs.Ytjihbfdbgamcdaa
namespace Go.Proofs.Ytjihbfdbgamcdaa
set_option linter.unusedVariables false
set_option linter.unusedSimpArgs false
open Go.Den
noncomputable section
end
end Go.Proofs.Ytjihbfdbgamcdaa
namespace Go.Proofs.Ytjihbfdbgamcdaa
set_option linter.unusedVariables false
set_option linter.unusedSimpArgs false
open Go.Den
noncomputable section
abbrev Turn := Int × St
def trC (p : Turn) : List Value := .int .i64 p.1 :: stC p.2
section
variable (s : List UInt8) (bol : Bool) (mn mx nn : Int) (set : BitVec 256) (kids : List Rx)
end
end
end Go.Proofs.Ytjihbfdbgamcdaa
namespace Go.Proofs.Ytjihbfdbgamcdaa
set_option linter.unusedVariables false
set_option linter.unusedSimpArgs false
open Go.Den
noncomputable section
section
variable (s : List UInt8) (bol : Bool) (mn mx nn : Int) (set : BitVec 256) (kids : List Rx)
end
end
end Go.Proofs.Ytjihbfdbgamcdaa
namespace Go.Proofs.Ytjihbfdbgamcdaa
set_option linter.unusedVariables false
set_option linter.unusedSimpArgs false
open Go.Den
noncomputable section
section
variable (s : List UInt8) (bol : Bool) (mn mx nn : Int) (set : BitVec 256) (kids : List Rx)
end
end
end Go.Proofs.Ytjihbfdbgamcdaa
namespace Go.Proofs.Ytjihbfdbgamcdaa
set_option linter.unusedVariables false
set_option linter.unusedSimpArgs false
open Go.Den
noncomputable section
section
variable (s : List UInt8) (bol : Bool) (mn mx nn : Int) (set : BitVec 256) (kids : List Rx)
end
end
end Go.Proofs.Ytjihbfdbgamcdaa
namespace Go.Proofs.Ytjihbfdbgamcdaa
set_option linter.unusedVariables false
set_option linter.unusedSimpArgs false
open Go.Den
noncomputable section
section
variable (s : List UInt8) (bol : Bool)
end
end
end Go.Proofs.Ytjihbfdbgamcdaa
namespace Go.Proofs.Ytjihbfdbgamcdaa
set_option linter.unusedVariables false
set_option linter.unusedSimpArgs false
open Go.Den
noncomputable section
section
variable (s : List UInt8) (bol : Bool)
end
end
end Go.Proofs.Ytjihbfdbgamcdaa
namespace Go.Proofs.Ytjihbfdbgamcdaa
set_option linter.unusedVariables false
set_option linter.unusedSimpArgs false
open Go.Den
noncomputable section
def wxxb (l : List Int) (r : Rx) : Bool := l.any fun a => decide (r.kind = a)
def bareF (r : Rx) : Bool := !((decide (r.kind ≠ 1) && decide (r.set ≠ 0#256)) || (decide (r.kind ≠ 4) && (decide (r.mn ≠ 0) || decide (r.mx ≠ 0)))) && (decide (r.kind = 5) || (decide (r.kind = 6) || decide (r.n = 0)))
def repF (r : Rx) : Bool := decide (0 ≤ r.mn) && (decide (r.mn ≤ 20) && (decide (r.mx = -1) || (decide (max r.mn 1 ≤ r.mx) && decide (r.mx ≤ 20))))
end
end Go.Proofs.Ytjihbfdbgamcdaa
namespace Go.Proofs.Ytjihbfdbgamcdaa
set_option linter.unusedVariables false
set_option linter.unusedSimpArgs false
open Go.Den
noncomputable section
end
end Go.Proofs.Ytjihbfdbgamcdaa
namespace Go.Den
set_option linter.unusedVariables false
set_option linter.unusedSimpArgs false
noncomputable section
mutual
def wyxb : Rx → Nat
 | .mk _ _ _ _ _ kids => 1 + wzxb kids
def wzxb : List Rx → Nat
 | [] => 0
 | r :: l => wyxb r + wzxb l
end
end
end Go.Den
namespace Go.Proofs.Ytjihbfdbgamcdaa
open Go.Den
noncomputable section
def kidsOkF (r : Rx) : Bool :=
 if r.kind = 1 then decide ((r.kids.length : Int) = 0) && decide (r.set ≠ 0#256)
 else if r.kind = 2 then decide ((r.kids.length : Int) ≠ 1) && !(r.kids.any (wxxb [2, 3]))
 else if r.kind = 3 then decide ((2 : Int) ≤ r.kids.length) && !(r.kids.any (wxxb [3]))
 else if r.kind = 4 then decide ((r.kids.length : Int) = 1) && (r.kids.any (wxxb [1, 5, 6]) && repF r)
 else if r.kind = 5 then decide ((r.kids.length : Int) = 1)
 else if r.kind = 6 then decide ((r.kids.length : Int) = 0)
 else if r.kind = 7 then decide ((r.kids.length : Int) = 0)
 else if r.kind = 8 then decide ((r.kids.length : Int) = 0)
 else false
end
end Go.Proofs.Ytjihbfdbgamcdaa
namespace Go.Proofs.Ytjihbfdbgamcdaa
set_option linter.unusedVariables false
set_option linter.unusedSimpArgs false
open Go.Den
noncomputable section
mutual
def wayb : Rx → Int → Int → Bool × Int
 | .mk k mn mx n s kids, d, g =>
  if bareF (.mk k mn mx n s kids) = true then
   if kidsOkF (.mk k mn mx n s kids) = true then
    if k = 5 then (if n = g + 1 then (if d + 1 ≤ 6 then wbyb kids (d + 1) (g + 1) else (false, g + 1)) else (false, g + 1))
    else if k = 6 then (decide (1 ≤ n) && decide (n ≤ g), g)
    else wbyb kids d g
   else (false, g)
  else (false, g)
def wbyb : List Rx → Int → Int → Bool × Int
 | [], _, g => (true, g)
 | r :: l, d, g => if (wayb r d g).1 = true then wbyb l d (wayb r d g).2 else (false, (wayb r d g).2)
end
end
end Go.Proofs.Ytjihbfdbgamcdaa
namespace Go.Proofs.Ytjihbfdbgamcdaa
set_option linter.unusedVariables false
set_option linter.unusedSimpArgs false
open Go.Den
noncomputable section
def rightF (r : Rx) : Bool := decide (wyxb r ≤ 40) && ((wayb r 0 0).1 && decide ((wayb r 0 0).2 ≤ 3))
end
end Go.Proofs.Ytjihbfdbgamcdaa
namespace Go.Proofs.Ytjihbfdbgamcdaa
set_option linter.unusedVariables false
set_option linter.unusedSimpArgs false
open Go.Den
noncomputable section
def waysAt (r : Rx) (s : List UInt8) (bol : Bool) (a : Int) : List St := if rightF r = true ∧ 0 ≤ a ∧ a ≤ s.length then waysF s bol r (a, mtNone) else []
end
end Go.Proofs.Ytjihbfdbgamcdaa
namespace Go.Proofs.Ytjihbfdbgamcdaa
set_option linter.unusedVariables false
set_option linter.unusedSimpArgs false
open Go.Den
noncomputable section
def bestF : List St → Option St → Option St
 | [], b => b
 | x :: l, none => bestF l (some x)
 | x :: l, some b => bestF l (if x.1 > b.1 then some x else some b)
end
end Go.Proofs.Ytjihbfdbgamcdaa
namespace Go.Proofs.Ytjihbfdbgamcdaa
set_option linter.unusedVariables false
set_option linter.unusedSimpArgs false
open Go.Den
noncomputable section
def firstF (r : Rx) (s : List UInt8) : Nat → Int → Option Mt
 | 0, _ => none
 | k + 1, a => match bestF (waysAt r s true a) none with
  | some b => some ((b.2.put 0 a).put 1 b.1)
  | none => firstF r s k (a + 1)
def firstR (r : Rx) (s : List UInt8) (a : Int) : Option Mt := if rightF r = true ∧ 0 ≤ a ∧ a ≤ s.length then firstF r s (s.length + 1 - a).toNat a else none
end
end Go.Proofs.Ytjihbfdbgamcdaa
namespace Go.Proofs.Ytjihbfdbgamcdaa
set_option linter.unusedVariables false
set_option linter.unusedSimpArgs false
open Go.Den
noncomputable section
end
end Go.Proofs.Ytjihbfdbgamcdaa
namespace Go.Proofs.Ytjihbfdbgamcdaa
set_option linter.unusedVariables false
set_option linter.unusedSimpArgs false
open Go.Den
noncomputable section
end
end Go.Proofs.Ytjihbfdbgamcdaa
namespace Go.Den
noncomputable section
section
variable {len : Nat} {s : List UInt8} {bol : Bool} {Q : St → Prop}
end
end
end Go.Den
namespace Go.Proofs.Ytjihbfdbgamcdaa
open Go.Den
noncomputable section
def SpOk (m : Mt) : Prop := ∀ g : Nat, 1 ≤ g → g ≤ 3 → 0 ≤ m.at (g * 2) → m.at 0 ≤ m.at (g * 2) ∧ m.at (g * 2 + 1) ≤ m.at 1
def BehF (r : Rx) (s : List UInt8) (p m : Mt) : Prop :=
 p.at 1 ≤ m.at 0 ∧ ¬ (m.at 0 = m.at 1 ∧ m.at 0 = p.at 1) ∧ ∃ x, firstR r s (p.at 1) = some x ∧ 0 ≤ x.at 0 ∧ x.at 0 ≤ m.at 0 ∧ (x.at 0 = m.at 0 ∨ x.at 0 = x.at 1)
structure MtOk (r : Rx) (s : List UInt8) (prev : Option Mt) (m : Mt) : Prop where
 lo : 0 ≤ m.at 0
 le : m.at 0 ≤ m.at 1
 hi : m.at 1 ≤ s.length
 sp : SpOk m
 fst : prev = none → firstR r s 0 = some m
 beh : ∀ p, prev = some p → BehF r s p m
end
end Go.Proofs.Ytjihbfdbgamcdaa
namespace Go.Proofs.Ytjihbfdbgamcdaa
set_option linter.unusedVariables false
set_option linter.unusedSimpArgs false
open Go.Den
noncomputable section
def slG (size n : Nat) (cs : List Value) : Option Nat → Option Nat → ARes
 | some l, some h => bif Nat.ble l h && (Nat.ble h n && Nat.beq (n * size) cs.length) then (bif Nat.beq l h then val (FL 0 []) else val (FL (h - l) (slotsOf cs (l * size) ((h - l) * size)))) else .none
 | _, _ => .none
theorem wcyb {e : Env} {H : AH} {size n : Nat} {cs : List Value} {x : Operand} : slSR e H size (FL n cs) (some x) none none = slG size n cs (wce (evl e x)) (some n) := by
 show (match wce (evl e x), some n with
  | some l, some h => slF2 size (n, cs) e none none l h
  | _, _ => .none) = _
 cases wce (evl e x) <;> rfl
theorem wxgb {e : Env} {H : AH} {size n : Nat} {cs : List Value} {y : Operand} : slSR e H size (FL n cs) none (some y) none = slG size n cs (some 0) (wce (evl e y)) := by
 show (match some 0, wce (evl e y) with
  | some l, some h => slF2 size (n, cs) e (some y) none l h
  | _, _ => .none) = _
 cases wce (evl e y) <;> rfl
theorem slG_some {size n l h : Nat} {cs : List Value} (h1 : l < h) (h2 : h ≤ n) (h3 : n * size = cs.length) : slG size n cs (some l) (some h) = val (FL (h - l) (slotsOf cs (l * size) ((h - l) * size))) := by
 show (bif Nat.ble l h && (Nat.ble h n && Nat.beq (n * size) cs.length) then (bif Nat.beq l h then val (FL 0 []) else _) else .none) = _
 rw [nble, nble, nbeq, nbeq, decide_eq_true (Nat.le_of_lt h1), decide_eq_true h2, decide_eq_true h3, decide_eq_false (by omega)]
 rfl
end
end Go.Proofs.Ytjihbfdbgamcdaa
namespace Go.Proofs.Ytjihbfdbgamcdaa
open Go.Den
noncomputable section
theorem wygb {size n l h : Nat} {cs : List Value} (h1 : l ≤ h) (h2 : h ≤ n) (h3 : n * size = cs.length) : slG size n cs (some l) (some h) = val (FL (h - l) (slotsOf cs (l * size) ((h - l) * size))) := by
 by_cases e : l = h
 ·subst e
  show (bif Nat.ble l l && (Nat.ble l n && Nat.beq (n * size) cs.length) then (bif Nat.beq l l then val (FL 0 []) else _) else .none) = _
  rw [nble, nble, nbeq, nbeq, decide_eq_true h1, decide_eq_true h2, decide_eq_true h3, decide_eq_true rfl, Nat.sub_self, Nat.zero_mul]
  unfold slotsOf
  rw [List.take_zero]
  rfl
 ·exact slG_some (by omega) h2 h3
theorem wrq {h : List ABlk} (hh : h.length ≤ 1099511627774) {elem size bytes i n : Nat} {new : List Value} (hn : n ≤ 16777216) (h0 : 0 < n) (hb : bytes ≤ 1048576) (ha : wdd (nfL new) = true) :
  appN h elem size bytes (.slice (some ⟨i, 0, none⟩) 0 1) n new = .eff (FO h.length n (nfL new)) (HP (h ++ [.tok n elem size])) := by
 rw [← wtxb hh (elem := elem) (size := size) hn hb ha]
 show (bif roomy (0 + n) bytes && Nat.ble 0 0 then wik true (HP h) elem size (.slice (some ⟨i, 0, none⟩) 0 1) ⟨i, 0, none⟩ 0 0 n new else .none) = (bif roomy n bytes then wxf true (HP h) elem size new n else .none)
 unfold wik
 rw [Nat.zero_add, nble, nble, decide_eq_false (show ¬ n ≤ 0 by omega)]
 simp
theorem wqw {h : List ABlk} (hh : h.length ≤ 1099511627774) {elem size bytes i n : Nat} {new : List Value} (hn : n ≤ 16777216) (h0 : 0 < n) (hb : bytes ≤ 1048576) (ha : wdd new = true) :
  appN h elem size bytes (.slice (some ⟨i, 0, none⟩) 0 1) n new = .eff (FO h.length n new) (HP (h ++ [.tok n elem size])) := by
 rw [wrq hh hn h0 hb (by rw [wdn ha]; exact ha), wdn ha]
theorem wpcb {h : List ABlk} {elem size bytes i : Nat} {cs : List Value} : appA true (HP h) elem size bytes (.slice (some ⟨i, 0, none⟩) 0 1) (FL 0 cs) = .eff (.slice (some ⟨i, 0, none⟩) 0 1) (HP h) := rfl
end
end Go.Proofs.Ytjihbfdbgamcdaa
namespace Go.Den
noncomputable section
variable {P : Program}
def setI (k : IntKind) (l : List Int) : List (Value × Value) := l.map fun x => (.int k x, .bool true)
def wiu (x : Int) : List Int → Nat → Option (Nat × Value)
 | [], _ => none
 | y :: r, i => if x = y then some (i, .bool true) else wiu x r (i + 1)
theorem wdyb {k : IntKind} (x : Int) : ∀ (l : List Int) (i : Nat), Instr.findNow (.int k) (.int k x) (entriesOf (setI k l)) i = some (wiu x l i) := by
 intro l
 induction l with
 | nil => intro i; rfl
 | cons y l ih =>
  intro i
  show (match (if k = k then some (x == y) else none : Option Bool) with
   | some true => some (some (i, Value.bool true))
   | some false => Instr.findNow (.int k) (.int k x) (entriesOf (setI k l)) (i + 1)
   | none => none) = _
  rw [if_pos rfl]
  by_cases h : x = y
  ·rw [show (x == y) = true by simpa using h]
   simp only [wiu, if_pos h]
  ·rw [show (x == y) = false by simpa using h]
   simp only [wiu, if_neg h]
   exact ih (i + 1)
theorem weyb {kt : TypeId} {k : IntKind} (ht : tyU P kt = some (.int k)) (b : Bool) (x : Int) (l : List Int) : wjr P b kt (.int k x) (setI k l) = some (wiu x l 0) := by
 unfold wjr
 rw [wib]
 have h1 : wo P (Instr.checkKey b 10000 kt (.int k x)) = some () := by
  show wo P ((underlying kt).bind fun d => _) = _
  rw [wkh kt ht]
  rfl
 rw [h1, Option.bind_some]
 show wo P ((underlying kt).bind fun d => _) = _
 rw [wkh kt ht]
 simp only [wdyb]
 rfl
theorem wrw {x : Int} : ∀ {l : List Int} {i : Nat} {q : Nat × Value}, wiu x l i = some q → i ≤ q.1 ∧ q.1 - i < l.length ∧ l[q.1 - i]? = some x ∧ q.2 = .bool true ∧ x ∈ l ∧ l.eraseIdx (q.1 - i) = l.erase x := by
 intro l
 induction l with
 | nil => intro i q h; cases h
 | cons y l ih =>
  intro i q h
  simp only [wiu] at h
  by_cases hq : x = y
  ·rw [if_pos hq] at h; cases h
   subst hq
   simp
  ·rw [if_neg hq] at h
   obtain ⟨h1, h2, h3, h4, h5, h6⟩ := ih h
   have e : q.1 - i = (q.1 - (i + 1)) + 1 := by omega
   refine ⟨by omega, by rw [List.length_cons]; omega, ?_, h4, List.mem_cons_of_mem _ h5, ?_⟩
   ·rw [e, List.getElem?_cons_succ]; exact h3
   ·rw [e, List.eraseIdx_cons_succ, h6, List.erase_cons_tail (by simpa using fun h => hq h.symm)]
theorem wsw {x : Int} : ∀ {l : List Int} {i : Nat}, wiu x l i = none → x ∉ l := by
 intro l
 induction l with
 | nil => intro i _ h; cases h
 | cons y l ih =>
  intro i h
  simp only [wiu] at h
  by_cases hq : x = y
  ·rw [if_pos hq] at h; cases h
  ·rw [if_neg hq] at h
   simp only [List.mem_cons, not_or]
   exact ⟨hq, ih h⟩
theorem wju {kt : TypeId} {k : IntKind} (ht : tyU P kt = some (.int k)) {x : Int} {l : List Int} : lookX P kt (.bool false) false (.int k x) (some (.map (setI k l))) = val (.bool (decide (x ∈ l))) := by
 show wxp false (.bool false) (wjr P (setI k l).isEmpty kt (.int k x) (setI k l)) = _
 rw [weyb ht]
 cases hq : wiu x l 0 with
 | none => rw [decide_eq_false (wsw hq)]; rfl
 | some q =>
  obtain ⟨_, _, _, h4, h5, _⟩ := wrw hq
  obtain ⟨j, v⟩ := q
  subst h4
  rw [decide_eq_true h5]; rfl
def putI (x : Int) (l : List Int) : List Int := if x ∈ l then l else l ++ [x]
theorem wzgb {kt : TypeId} {k : IntKind} (ht : tyU P kt = some (.int k)) {h : List ABlk} {r : Nat} {x : Int} {l : List Int} (hr : r < h.length) : updX P h r kt (.int k x) (.bool true) (some (.map (setI k l))) = .eff undef (HP (h.set r (.map (setI k (putI x l))))) := by
 show (bif true && Nat.blt r h.length then wmv (HP h) r (setI k l) (.int k x) (.bool true) (wjr P false kt (.int k x) (setI k l)) else .none) = _
 rw [nblt, decide_eq_true hr, Bool.and_self, cond_true, weyb ht]
 unfold putI
 cases hq : wiu x l 0 with
 | none =>
  rw [if_neg (wsw hq)]
  show ARes.eff undef ((HP h).set r (.map (setI k l ++ [(.int k x, .bool true)]))) = _
  rw [wnp _ _ _ hr]
  simp [setI]
 | some q =>
  obtain ⟨j, v⟩ := q
  obtain ⟨_, h2, h3, h4, h5, _⟩ := wrw hq
  simp only [Nat.sub_zero] at h2 h3
  rw [if_pos h5]
  have e1 : (setI k l)[j]? = some (.int k x, .bool true) := by rw [setI, List.getElem?_map, h3]; rfl
  have e2 : Instr.sameBits 10000 (.int k x) (.int k x) = true := by simp [Instr.sameBits]
  show (match (setI k l)[j]? with | some e => (bif Instr.sameBits 10000 e.1 (.int k x) then ARes.eff undef ((HP h).set r (.map ((setI k l).set j (.int k x, .bool true)))) else .none) | none => .none) = _
  rw [e1]
  simp only [e2, cond_true]
  rw [wnp _ _ _ hr]
  have e3 : (setI k l).set j (.int k x, .bool true) = setI k l := by
   apply List.ext_getElem?
   intro n
   rw [List.getElem?_set]
   by_cases hn : j = n
   ·subst hn
    rw [if_pos rfl, e1]
    have : j < (setI k l).length := by rw [setI, List.length_map]; exact h2
    rw [if_pos this]
   ·rw [if_neg hn]
  rw [e3]
theorem wes {k : IntKind} : setI k [] = [] := rfl
theorem wku {k : IntKind} (l : List Int) : wdcb (setI k l) = true := by
 unfold wdcb setI
 rw [List.all_map]
 simp [Function.comp_def, wml]
theorem wbf {k : IntKind} (l : List Int) : wct (setI k l) = [] ∧ (∀ m, renM m (setI k l) = setI k l) ∧ wjeb (setI k l) = [] :=
 ⟨wcnb (wku l), fun _ => wrvb (wku l), wdnb (wku l)⟩
theorem wzh {k : IntKind} {l : List Int} : (setI k l).length = l.length := List.length_map ..
theorem wcl {k : IntKind} (l : List Int) : beqP (setI k l) (setI k l) = true := by
 induction l with
 | nil => rfl
 | cons a l ih =>
  show (beqV (.int k a) (.int k a) && (beqV (.bool true) (.bool true) && beqP (setI k l) (setI k l))) = true
  rw [ih, wrwb, wqp]
  simp
end
end Go.Den
namespace Go.Den
noncomputable section
variable {P : Program}
theorem wahb (z : Value) : ∀ n, wxd [z] n = List.replicate n z := by
 intro n
 induction n with
 | zero => rfl
 | succ n ih => rw [wxd, ih, List.replicate_succ]; rfl
theorem wfob {z : Value} (hz : wuc z = true) : ∀ n, wcb (List.replicate n z) = true := by
 intro n
 induction n with
 | zero => rfl
 | succ n ih => rw [List.replicate_succ]; show (wuc z && wcb (List.replicate n z)) = true; rw [hz, ih]; rfl
theorem mk_one {elem bytes fresh : Nat} {z : Value} (hz : wuc z = true) {l c : Nat} (hl : l ≤ c) (hc : c ≤ 16777216) (hb : bytes ≤ 1048576) :
  wnm elem 1 bytes [z] fresh (some l) (some c) = .simple (.slice (some ⟨fresh, 0, none⟩) l (c + 1)) (some (X (List.replicate c z) elem 0 true)) := by
 show (bif Nat.ble l c && roomy c bytes then ARes.simple (.slice (some ⟨fresh, 0, none⟩) l (c + 1)) (some (exact (wxd [z] c) elem)) else .none) = _
 unfold roomy
 rw [nble, nble, nble, decide_eq_true hl, decide_eq_true hc, decide_eq_true hb, wahb, wtrb, wfob hz]
 rfl
theorem copy_X {h : List ABlk} (hh : h.length ≤ 1099511627774) {i n c k : Nat} {cs vs : List Value} {elem z : Nat} {pf : Bool} (hb : h[i]? = some (X vs elem z pf)) (hz : z = 0) (hk : 0 < k) (hkn : k ≤ n) (hcs : cs.length = k) (hv : n ≤ vs.length) (ho : cs.all oneCell = true) :
  wos (HP h) 1 (.slice (some ⟨i, 0, none⟩) n c) (FL k cs) = .eff (.int .i64 k) (HP (h.set i (X (wm vs 0 cs) elem 0 (pf && wcb cs)))) := by
 subst hz
 have hi : i < h.length := by
  rcases Nat.lt_or_ge i h.length with h1 | h1
  ·exact h1
  ·rw [List.getElem?_eq_none h1] at hb; cases hb
 obtain ⟨k, rfl⟩ : ∃ j, k = j + 1 := ⟨k - 1, by omega⟩
 show (match Nat.min (k + 1) n with
  | 0 => ARes.eff (.int .i64 0) (HP h)
  | m => match weh (HP h) 1 m (FL (k + 1) cs) with
   | some cs => effV (.int .i64 m) (wkc (HP h) ⟨i, 0, none⟩ cs)
   | none => .none) = _
 rw [show Nat.min (k + 1) n = k + 1 from Nat.min_eq_left hkn]
 show (match (bif Nat.ble (k + 1) (k + 1) && (Nat.blt 0 (k + 1) && Nat.ble ((k + 1) * 1) cs.length) then some (cs.take ((k + 1) * 1)) else none) with
   | some cs => effV (.int .i64 ((k + 1 : Nat) : Int)) (wkc (HP h) ⟨i, 0, none⟩ cs)
   | none => .none) = _
 rw [nble, nblt, nble, decide_eq_true (Nat.le_refl _), decide_eq_true hk, decide_eq_true (show (k + 1) * 1 ≤ cs.length by omega), List.take_of_length_le (by omega)]
 simp only [Bool.and_self, cond_true]
 unfold wkc wapb
 rw [rd_X hh hb, if_pos (by omega)]
 simp only [aver, Option.getD_none, CBlk.top, List.length_nil]
 have h1 : (Nat.beq 0 (0 - 1) && (Nat.ble 0 0 && wmb i)) = true := by
  rw [show wmb i = true from Nat.ble_eq_true_of_le (by omega)]; rfl
 rw [h1, cond_true]
 simp only [ho, cond_true]
 rw [wnp _ _ _ hi]
 rfl
theorem copy_0 {H : AH} {i n c : Nat} {cs : List Value} : wos H 1 (.slice (some ⟨i, 0, none⟩) n c) (FL 0 cs) = .eff (.int .i64 0) H := by
 show (match Nat.min 0 n with
  | 0 => ARes.eff (.int .i64 0) H
  | m => match weh H 1 m (FL 0 cs) with
   | some cs => effV (.int .i64 m) (wkc H ⟨i, 0, none⟩ cs)
   | none => .none) = _
 rw [show Nat.min 0 n = 0 from Nat.zero_min n]
 rfl
end
end Go.Den
namespace Go.Proofs.Ytjihbfdbgamcdaa
set_option linter.unusedVariables false
set_option linter.unusedSimpArgs false
open Go.Den
noncomputable section
def rmC (l : List Nat) (m : Int) (j k : Nat) : List Value := byC l ++ (List.replicate j (.int .u8 m) ++ List.replicate k (.int .u8 0))
theorem wlu {l : List Nat} {m : Int} {j k : Nat} : (rmC l m j k).length = l.length + j + k := by
 unfold rmC
 rw [List.length_append, List.length_append, wkb, List.length_replicate, List.length_replicate]; omega
theorem rm_set {l : List Nat} {m : Int} {j k : Nat} : (rmC l m j (k + 1)).set (l.length + j) (.int .u8 m) = rmC l m (j + 1) k := by
 unfold rmC
 rw [List.set_append_right _ _ (by rw [wkb]; omega), wkb, show l.length + j - l.length = j by omega, List.set_append_right _ _ (by rw [List.length_replicate]; omega), List.length_replicate, Nat.sub_self, List.replicate_succ, List.set_cons_zero, List.replicate_succ', List.append_assoc]
 rfl
def zr (n : Nat) : List Value := List.replicate n (.int .u8 0)
theorem wqcb {n : Nat} : (zr n).length = n := List.length_replicate
theorem mk_zr {elem bytes fresh l c : Nat} (hl : l ≤ c) (hc : c ≤ 16777216) (hb : bytes ≤ 1048576) : wnm elem 1 bytes [.int .u8 0] fresh (some l) (some c) = .simple (.slice (some ⟨fresh, 0, none⟩) l (c + 1)) (some (X (zr c) elem 0 true)) := mk_one rfl hl hc hb
theorem over_gen : ∀ (m l a : List Value), m.length ≤ l.length → wm (a ++ l) a.length m = a ++ (m ++ l.drop m.length) := by
 intro m
 induction m with
 | nil => intro l a _; rfl
 | cons v r ih =>
  intro l a h
  cases l with
  | nil => simp at h
  | cons w l =>
   show wm ((a ++ w :: l).set a.length v) (a.length + 1) r = _
   rw [List.set_append_right _ _ (Nat.le_refl _), Nat.sub_self, List.set_cons_zero]
   have := ih l (a ++ [v]) (by simp at h; omega)
   rw [List.append_assoc, List.singleton_append, List.length_append, List.length_singleton] at this
   rw [this, List.append_assoc]
   rfl
theorem rm_over {l : List Nat} {m : Int} {k : Nat} : wm (zr (l.length + k)) 0 (byC l) = rmC l m 0 k := by
 have h := over_gen (byC l) (zr (l.length + k)) [] (by rw [wkb, wqcb]; omega)
 rw [List.nil_append, List.length_nil, List.nil_append, wkb] at h
 rw [h]
 unfold rmC zr
 rw [List.drop_replicate, show l.length + k - l.length = k by omega]
 rfl
def exX0 : Option ABlk → Bool
 | some (.cells b) => isNil b.lens && (Nat.beq b.wver 0 && (Nat.beq b.esz 1 && (Nat.beq b.frz 0 && !b.mark)))
 | _ => false
theorem exX0_X {vs : List Value} {t : Nat} {pf : Bool} : exX0 (some (X vs t 0 pf)) = true := rfl
def cpX (h : List ABlk) (i n c k : Nat) (cs : List Value) : Option ABlk → ARes
 | some (.cells b) => bif decide (n ≤ b.cells.length) then .eff (.int .i64 k) (HP (h.set i (X (wm b.cells 0 cs) b.elem 0 (b.pf && wcb cs)))) else wos (HP h) 1 (.slice (some ⟨i, 0, none⟩) n c) (FL k cs)
 | _ => wos (HP h) 1 (.slice (some ⟨i, 0, none⟩) n c) (FL k cs)
theorem copy_HP {h : List ABlk} (hh : h.length ≤ 1099511627774) {i n c k : Nat} {cs : List Value} (hx : exX0 h[i]? = true) (hk : 0 < k) (hkn : k ≤ n) (hcs : cs.length = k) (ho : cs.all oneCell = true) :
  wos (HP h) 1 (.slice (some ⟨i, 0, none⟩) n c) (FL k cs) = cpX h i n c k cs h[i]? := by
 cases hb : h[i]? with
 | none => rfl
 | some b =>
  cases b with
  | map es => rfl
  | tok a b c => rfl
  | cells b =>
   rw [hb] at hx
   obtain ⟨cells, elem, esz, lens, wver, frz, mark, pf⟩ := b
   have hx : (isNil lens && (Nat.beq wver 0 && (Nat.beq esz 1 && (Nat.beq frz 0 && !mark)))) = true := hx
   simp only [Bool.and_eq_true, Nat.beq_eq, Bool.not_eq_true'] at hx
   obtain ⟨h3, h4, h6, h7, h8⟩ := hx
   have h5 : lens = [] := by cases hl : lens with | nil => rfl | cons a r => rw [hl] at h3; cases h3
   subst h4 h5 h6 h7 h8
   show _ = (bif decide (n ≤ cells.length) then _ else _)
   by_cases hv : n ≤ cells.length
   ·rw [decide_eq_true hv, cond_true]
    exact copy_X hh hb rfl hk hkn hcs hv ho
   ·rw [decide_eq_false hv, cond_false]
theorem cpX_X {h : List ABlk} {i n c k : Nat} {cs vs : List Value} {elem : Nat} {pf : Bool} (hv : n ≤ vs.length) : cpX h i n c k cs (some (X vs elem 0 pf)) = .eff (.int .i64 k) (HP (h.set i (X (wm vs 0 cs) elem 0 (pf && wcb cs)))) := by
 show (bif decide (n ≤ vs.length) then _ else _) = _
 rw [decide_eq_true hv, cond_true]
theorem wfyb (l : List Nat) (m : Int) (j k : Nat) : wdd (rmC l m j k) = true := by
 have rep : ∀ (z : Int) (n : Nat), wdd (List.replicate n (.int .u8 z)) = true := by
  intro z n
  induction n with
  | zero => rfl
  | succ n ih => rw [List.replicate_succ]; show (wml (.int .u8 z) && wdd _) = true; rw [ih]; rfl
 unfold rmC
 rw [wfj, wfj, wds, rep, rep]; rfl
theorem wrcb {l : List Nat} {m : Int} {j k : Nat} : wcb (rmC l m j k) = true := wlh (wfyb l m j k)
theorem wfn (l : List Nat) (m : Int) (j k : Nat) : FzL (rmC l m j k) := fzl (wfyb l m j k)
theorem rm_get {l : List Nat} {m : Int} {j : Nat} (h : j < 80) : (rmC l m 80 0)[l.length + j]? = some (.int .u8 m) := by
 unfold rmC
 rw [List.getElem?_append_right (by rw [wkb]; omega), wkb, show l.length + j - l.length = j by omega, List.getElem?_append_left (by rw [List.length_replicate]; exact h), List.getElem?_replicate, if_pos h]
theorem wgyb {l : List Nat} {m : Int} : slotsOf (rmC l m 80 0) 0 l.length = byC l := by
 unfold slotsOf rmC
 rw [List.drop_zero, List.take_left' wkb]
theorem byC_one (l : List Nat) : (byC l).all oneCell = true := by
 rw [List.all_eq_true]
 intro v hv
 unfold byC at hv
 obtain ⟨x, _, rfl⟩ := List.mem_map.1 hv
 rfl
theorem wgob (l : List Nat) : wcb (byC l) = true := by
 induction l with
 | nil => rfl
 | cons a l ih => show (wuc (.int .u8 a) && wcb (byC l)) = true; rw [ih]; rfl
theorem byC_get {l : List Nat} {i : Nat} (h : i < l.length) : (byC l)[i]? = some (.int .u8 ((l.getD i 0 : Nat) : Int)) := by
 rw [byC, List.getElem?_map, List.getD_eq_getElem?_getD, List.getElem?_eq_getElem h]; rfl
abbrev rmP (l : List Nat) : Value := .slice (some ⟨0, 0, none⟩) (l.length + 80) (l.length + 80 + 1)
theorem whob (l : List Nat) (hl : l.length ≤ 20) (m : Int) : ∀ (k j : Nat), j + k = 80 →
  lim Try.prog cfg (.loop 41 0 (wkd 0) (SE (EJ 27 G1) [(6, .int .i64 (l.length + j : Nat)), (5, rmP l), (1, .int .u8 m)])) (HP [X (rmC l m j k) 5 0 true]) = some (.code (.exit 0) (SE (EJ 27 G1) [(5, rmP l)]), HP [X (rmC l m 80 0) 5 0 true]) := by
 intro k
 induction k with
 | zero =>
  intro j hj
  obtain rfl : j = 80 := by omega
  have e := wlu (l := l) (m := m) (j := 80) (k := 0)
  refine wbc wgf ?_
  unfold wfe
  (repeat' (first | (simp -implicitDefEqProofs (maxSteps := 2000000) (disch := first | with_reducible assumption | omega | (simp only [zS, zA, seval, wfn, zD] <;> omega) | fail) only [zS, argl, insA, Go.Den.wm, ww, wbb, looks, wxb, wnb, idOf, riA, seval, Go.Den.wu, kK, wyc, *, zT]) | (with_reducible (first | apply z1 | apply z2 | apply z3 | apply z4) <;> intro hq <;> (try simp only [zH] at hq) <;> (try (exfalso; omega)))))
 | succ k ih =>
  intro j hj
  have h := ih (j + 1) (by omega)
  have e := wlu (l := l) (m := m) (j := j) (k := k + 1)
  have es := rm_set (l := l) (m := m) (j := j) (k := k)
  have e1 : ((l.length + (j + 1) : Nat) : Int) = ((l.length + j : Nat) : Int) + 1 := by omega
  rw [e1] at h
  generalize hn : l.length + j = n at *
  clear ih
  refine wbc wgf ?_
  unfold wfe
  (repeat' (first | (simp -implicitDefEqProofs (maxSteps := 2000000) (disch := first | with_reducible assumption | omega | (simp only [zS, zA, seval, wfn, zD] <;> omega) | fail) only [zS, argl, insA, Go.Den.wm, ww, wbb, looks, wxb, wnb, idOf, riA, seval, Go.Den.wu, kK, wyc, *, zT]) | (with_reducible (first | apply z1 | apply z2 | apply z3 | apply z4) <;> intro hq <;> (try simp only [zH] at hq) <;> (try (exfalso; omega)))))
  all_goals exact h
theorem wajb (l : List Nat) (hl : l.length ≤ 20) (m : Int) : lim Try.prog cfg (.call 41 [FL l.length (byC l), .int .u8 m]) (HP []) = some (.val (FL (l.length + 80) (rmC l m 80 0)), HP []) := by
 have h := whob l hl m 80 0 (by omega)
 rw [Nat.add_zero] at h
 have eo := rm_over (l := l) (m := m) (k := 80)
 have e := wlu (l := l) (m := m) (j := 80) (k := 0)
 have e1 : ((l.length : Int) + 80).toNat = l.length + 80 := by omega
 by_cases h0 : l = []
 ·subst h0
  rw [show ([] : List Nat).length = 0 from rfl] at *
  rw [show rmC [] m 0 80 = zr 80 from rfl, show ((0 : Nat) : Int) = 0 from rfl, show rmP [] = .slice (some ⟨0, 0, none⟩) 80 81 from rfl] at h
  rw [show byC [] = [] from rfl]
  refine wfb hc wpf (Nat.le_of_ble_eq_true rfl) (Nat.le_of_ble_eq_true rfl) ?_
  unfold wve
  (repeat' (first | (simp -implicitDefEqProofs (maxSteps := 2000000) (disch := first | with_reducible assumption | omega | (simp only [zS, zA, seval, wfn, wqcb, zD] <;> omega) | fail) only [zS, argl, insA, Go.Den.wm, ww, wbb, looks, wxb, wnb, idOf, riA, seval, Go.Den.wu, kK, wyc, mk_zr, copy_0, wqcb, wrcb, *, zT]) | (with_reducible (first | apply z1 | apply z2 | apply z3 | apply z4) <;> intro hq <;> (try simp only [zH] at hq) <;> (try (exfalso; omega)))))
 ·have hp : 0 < l.length := List.length_pos_iff.2 h0
  have hbl := wkb (l := l)
  have hbo := byC_one l
  refine wfb hc wpf (Nat.le_of_ble_eq_true rfl) (Nat.le_of_ble_eq_true rfl) ?_
  unfold wve
  (repeat' (first | (simp -implicitDefEqProofs (maxSteps := 2000000) (disch := first | with_reducible assumption | omega | (simp only [zS, zA, seval, wfn, wqcb, wkb, exX0_X, zD] <;> omega) | fail) only [zS, argl, insA, Go.Den.wm, ww, wbb, looks, wxb, wnb, idOf, riA, seval, Go.Den.wu, kK, wyc, mk_zr, copy_HP, cpX_X, exX0_X, wgob, wqcb, wrcb, *, zT]) | (with_reducible (first | apply z1 | apply z2 | apply z3 | apply z4) <;> intro hq <;> (try simp only [zH] at hq) <;> (try (exfalso; omega)))))
theorem wiob (l : List Nat) (hl : l.length ≤ 100) : ∀ (k i : Nat), i + k = l.length →
  lim Try.prog cfg (.loop 77 0 (wwd 0) (SE (EJ 26 G0) [(5, .int .i64 i), (1, FL l.length (byC l)), (0, FL l.length (byC l))])) (HP []) = some (.code (.exit 0) (SE (EJ 26 G0) [(4, JK)]), HP []) := by
 intro k
 induction k with
 | zero =>
  intro i hi
  refine wbc wlf ?_
  unfold wle
  (repeat' (first | (simp -implicitDefEqProofs (maxSteps := 2000000) (disch := first | with_reducible assumption | omega | (simp only [zS, zA, seval, wsg, wkb, wld, whf, zD] <;> omega) | fail) only [zS, argl, insA, Go.Den.wm, ww, wbb, looks, wxb, wnb, idOf, riA, seval, Go.Den.wu, kK, wme, wkb, wld, whf, ej26, *, zT]) | (with_reducible (first | apply z1 | apply z2 | apply z3 | apply z4) <;> intro hq <;> (try simp only [zH] at hq) <;> (try (exfalso; omega))) | (with_reducible apply z5; (case hl => (repeat (first | exact .nil | with_reducible apply z6 | with_reducible apply z7))); (case h => kernel_rfl))))
 | succ k ih =>
  intro i hi
  have h := ih (i + 1) (by omega)
  have g := byC_get (l := l) (i := i) (by omega)
  clear ih
  refine wbc wlf ?_
  unfold wle
  (repeat' (first | (simp -implicitDefEqProofs (maxSteps := 2000000) (disch := first | with_reducible assumption | omega | (simp only [zS, zA, seval, wsg, wkb, wld, whf, zD] <;> omega) | fail) only [zS, argl, insA, Go.Den.wm, ww, wbb, looks, wxb, wnb, idOf, riA, seval, Go.Den.wu, kK, wme, wkb, wld, whf, ej26, *, zT]) | (with_reducible (first | apply z1 | apply z2 | apply z3 | apply z4) <;> intro hq <;> (try simp only [zH] at hq) <;> (try (exfalso; omega))) | (with_reducible apply z5; (case hl => (repeat (first | exact .nil | with_reducible apply z6 | with_reducible apply z7))); (case h => kernel_rfl))))
  all_goals exact h
theorem ev_SameB (l : List Nat) (hl : l.length ≤ 100) : lim Try.prog cfg (.call 77 [FL l.length (byC l), FL l.length (byC l)]) (HP []) = some (.val (.bool true), HP []) := by
 have h := wiob l hl l.length 0 (by omega)
 rw [show ((0 : Nat) : Int) = 0 from rfl] at h
 refine wfb hc woj (Nat.le_of_ble_eq_true rfl) (Nat.le_of_ble_eq_true rfl) ?_
 unfold wrg
 (repeat' (first | (simp -implicitDefEqProofs (maxSteps := 2000000) (disch := first | with_reducible assumption | omega | (simp only [zS, zA, seval, wsg, wkb, wld, whf, zD] <;> omega) | fail) only [zS, argl, insA, Go.Den.wm, ww, wbb, looks, wxb, wnb, idOf, riA, seval, Go.Den.wu, kK, wme, wkb, wld, whf, ej26, *, zT]) | (with_reducible (first | apply z1 | apply z2 | apply z3 | apply z4) <;> intro hq <;> (try simp only [zH] at hq) <;> (try (exfalso; omega)))))
theorem ej37 : (EJ 37 G0).get 6 = JK := rfl
theorem wbhb (l : List Nat) (hl : l.length ≤ 20) (m : Int) : ∀ (k j : Nat), j + k = 80 →
  lim Try.prog cfg (.loop 51 0 (wgd 0) (SE (EJ 37 G0) [(7, .int .i64 (l.length + j : Nat)), (2, .int .u8 m), (0, FL (l.length + 80) (rmC l m 80 0))])) (HP []) = some (.code (.exit 0) (SE (EJ 37 G0) [(6, JK)]), HP []) := by
 intro k
 induction k with
 | zero =>
  intro j hj
  obtain rfl : j = 80 := by omega
  have e := wlu (l := l) (m := m) (j := 80) (k := 0)
  refine wbc wye ?_
  unfold wzd
  (repeat' (first | (simp -implicitDefEqProofs (maxSteps := 2000000) (disch := first | with_reducible assumption | omega | (simp only [zS, zA, seval, wfn, wld, whf, zD] <;> omega) | fail) only [zS, argl, insA, Go.Den.wm, ww, wbb, looks, wxb, wnb, idOf, riA, seval, Go.Den.wu, kK, wae, wld, whf, ej37, *, zT]) | (with_reducible (first | apply z1 | apply z2 | apply z3 | apply z4) <;> intro hq <;> (try simp only [zH] at hq) <;> (try (exfalso; omega)))))
 | succ k ih =>
  intro j hj
  have h := ih (j + 1) (by omega)
  have e := wlu (l := l) (m := m) (j := 80) (k := 0)
  have g := rm_get (l := l) (m := m) (j := j) (by omega)
  have e1 : ((l.length + (j + 1) : Nat) : Int) = ((l.length + j : Nat) : Int) + 1 := by omega
  rw [e1] at h
  generalize hn : l.length + j = n at *
  clear ih
  refine wbc wye ?_
  unfold wzd
  (repeat' (first | (simp -implicitDefEqProofs (maxSteps := 2000000) (disch := first | with_reducible assumption | omega | (simp only [zS, zA, seval, wfn, wld, whf, zD] <;> omega) | fail) only [zS, argl, insA, Go.Den.wm, ww, wbb, looks, wxb, wnb, idOf, riA, seval, Go.Den.wu, kK, wae, wld, whf, ej37, *, zT]) | (with_reducible (first | apply z1 | apply z2 | apply z3 | apply z4) <;> intro hq <;> (try simp only [zH] at hq) <;> (try (exfalso; omega)))))
  all_goals exact h
theorem wscb (l : List Nat) (hl : l.length ≤ 20) (m : Int) : lim Try.prog cfg (.call 51 [FL (l.length + 80) (rmC l m 80 0), FL l.length (byC l), .int .u8 m]) (HP []) = some (.val (.bool true), HP []) := by
 have h := wbhb l hl m 80 0 (by omega)
 rw [Nat.add_zero] at h
 have hs := ev_SameB l (by omega)
 have e := wlu (l := l) (m := m) (j := 80) (k := 0)
 have hcut : slG 1 (l.length + 80) (rmC l m 80 0) (some 0) (some l.length) = val (FL l.length (byC l)) := by
  rw [wygb (Nat.zero_le _) (by omega) (by omega), Nat.sub_zero, Nat.mul_one, Nat.mul_one, wgyb]
 refine wfb hc wqi (Nat.le_of_ble_eq_true rfl) (Nat.le_of_ble_eq_true rfl) ?_
 unfold wgg
 (repeat' (first | (simp -implicitDefEqProofs (maxSteps := 2000000) (disch := first | with_reducible assumption | omega | (simp only [zS, zA, seval, wfn, wsg, wkb, wld, whf, zD] <;> omega) | fail) only [zS, argl, insA, Go.Den.wm, ww, wbb, looks, wxb, wnb, idOf, riA, seval, Go.Den.wu, kK, wae, wxgb, wkb, wld, whf, ej37, *, zT]) | (with_reducible (first | apply z1 | apply z2 | apply z3 | apply z4) <;> intro hq <;> (try simp only [zH] at hq) <;> (try (exfalso; omega)))))
end
end Go.Proofs.Ytjihbfdbgamcdaa
namespace Go.Proofs.Ytjihbfdbgamcdaa
set_option linter.unusedVariables false
set_option linter.unusedSimpArgs false
open Go.Den
noncomputable section
theorem ofL_next (l : List Nat) {i : Nat} (hi : i < l.length) : ofL (l.take (i + 1)) = ofL (l.take i) ||| one (l.getD i 0) := take_ofL l hi
theorem byC_at {l : List Nat} {i : Nat} (h : i < l.length) : (byC l)[i]? = some (.int .u8 ((l.getD i 0 : Nat) : Int)) := by
 rw [byC, List.getElem?_map, List.getD_eq_getElem?_getD, List.getElem?_eq_getElem h]; rfl
theorem ofR_loop (l : List Nat) (hl : l.length ≤ 1000) (hb : ∀ x ∈ l, x < 256) (z : BitVec 256) : ∀ (m i : Nat), i + m = l.length →
  lim Try.prog cfg (.loop 37 0 (wdi 0) (SE (EJ 23 G0) [(8, .int .i64 i), (7, .int .i64 l.length), (6, FL l.length (byC l)), (3, pS 1), (2, pS 0)])) (HP [bS z, bS (ofL (l.take i))]) = some (.code (.exit 0) (SE (EJ 23 G0) [(3, pS 1), (2, pS 0)]), HP [bS z, bS (ofL l)]) := by
 intro m
 induction m with
 | zero =>
  intro i hi
  rw [List.take_of_length_le (by omega)]
  generalize ofL l = R at *
  refine wbc wmg ?_
  unfold wmh
  (repeat' (first | (simp -implicitDefEqProofs (maxSteps := 2000000) (disch := first | with_reducible assumption | omega | (simp only [zS, zA, seval, wac, wsg, wkb, zD] <;> omega) | fail) only [zS, argl, insA, Go.Den.wm, ww, wbb, looks, wxb, wnb, idOf, riA, seval, Go.Den.wu, kK, whg, *, zT]) | (with_reducible (first | apply z1 | apply z2 | apply z3 | apply z4) <;> intro hq <;> (try simp only [zH] at hq) <;> (try (exfalso; omega)))))
 | succ m ih =>
  intro i hi
  have h := ih (i + 1) (by omega)
  have hlt : i < l.length := by omega
  have hx : l.getD i 0 < 256 := hb _ (by rw [List.getD_eq_getElem?_getD, List.getElem?_eq_getElem hlt]; exact List.getElem_mem hlt)
  have hg := byC_at hlt
  rw [ofL_next l hlt] at h
  generalize hxx : l.getD i 0 = x at *
  clear hxx
  generalize ofL (l.take i) = s at *
  generalize ofL l = R at *
  rw [← or_one s x hx] at h
  have h1 : BitVec.ofInt (IntKind.bits .u64) 1 = BitVec.ofInt (IntKind.bits .u64) (((1#64).toNat : Nat) : Int) := rfl
  have e1 : ((x : Int) / 64).toNat = x / 64 := by omega
  have e2 : ((x : Int) % 64).toNat = x % 64 := by omega
  have hs : IntKind.wrap .u64 (1 * 2 ^ (min (x % 64) (IntKind.bits .u64))) = ((1#64 <<< (x % 64)).toNat : Nat) := by
   have := wsgb (b := ((x % 64 : Nat) : Int)) (by omega) (by omega)
   rwa [Int.toNat_natCast] at this
  have ho := wvib (wd s (x / 64)) (1#64 <<< (x % 64))
  have hset := wup s (show x / 64 < 4 by omega) (wd s (x / 64) ||| (1#64 <<< (x % 64)))
  clear ih hb
  refine wbc wmg ?_
  unfold wmh
  (repeat' (first | (simp -implicitDefEqProofs (maxSteps := 2000000) (disch := first | with_reducible assumption | omega | (simp only [zS, zA, seval, wac, wsg, wkb, wh, zD] <;> omega) | fail) only [zS, argl, insA, Go.Den.wm, ww, wbb, looks, wxb, wnb, idOf, riA, seval, Go.Den.wu, kK, whg, wjj, wh, wkb, *, zT]) | (with_reducible (first | apply z1 | apply z2 | apply z3 | apply z4) <;> intro hq <;> (try simp only [zH] at hq) <;> (try (exfalso; omega)))))
  all_goals exact h
theorem wug (l : List Nat) (hl : l.length ≤ 1000) (hb : ∀ x ∈ l, x < 256) : lim Try.prog cfg (.call 37 [FL l.length (byC l)]) (HP []) = some (.val (sV (ofL l)), HP []) := by
 have h := ofR_loop l hl hb 0#256 l.length 0 (by omega)
 rw [show ((0 : Nat) : Int) = 0 from rfl, List.take_zero, show ofL [] = 0#256 from rfl] at h
 unfold bS at h
 rw [show setC 0#256 = [.int .u64 0, .int .u64 0, .int .u64 0, .int .u64 0] from rfl] at h
 generalize ofL l = R at *
 clear hb
 refine wfb hc wrp (Nat.le_of_ble_eq_true rfl) (Nat.le_of_ble_eq_true rfl) ?_
 unfold wpq
 (repeat' (first | (simp -implicitDefEqProofs (maxSteps := 2000000) (disch := first | with_reducible assumption | omega | (simp only [zS, zA, seval, wac, wsg, wkb, wh, zD] <;> omega) | fail) only [zS, argl, insA, Go.Den.wm, ww, wbb, looks, wxb, wnb, idOf, riA, seval, Go.Den.wu, kK, whg, wh, wkb, *, zT]) | (with_reducible (first | apply z1 | apply z2 | apply z3 | apply z4) <;> intro hq <;> (try simp only [zH] at hq) <;> (try (exfalso; omega)))))
theorem whyb (s : List UInt8) (n0 : decide (s = [97, 108, 112, 104, 97]) = true) (x : Nat) (hx : x < 256) : lim Try.prog cfg (.call 74 [str s, .int .u8 x]) (HP []) = some (.val (.bool (inB 65 90 x || inB 97 122 x)), HP []) := by
 refine wfb hc wdb (Nat.le_of_ble_eq_true rfl) (Nat.le_of_ble_eq_true rfl) ?_
 unfold wjb
 generalize hr : (inB 65 90 x || inB 97 122 x) = r
 (repeat' (first | (simp -implicitDefEqProofs (maxSteps := 2000000) (disch := first | with_reducible assumption | omega | (simp only [zS, zA, seval] <;> omega) | fail) only [zS, argl, insA, Go.Den.wm, ww, wbb, looks, wxb, wnb, idOf, riA, seval, Go.Den.wu, kK, *]) | (with_reducible (first | apply z1 | apply z2 | apply z3 | apply z4) <;> intro hq <;> (try simp only [zH] at hq) <;> (try (exfalso; omega)))))
 all_goals (first | (subst hr; refine congrArg (fun b => some (Out.val (Value.bool b), HP [])) ?_; rw [Bool.eq_iff_iff]; simp [inB] <;> omega) | (subst hr; refine congrArg (fun b => some (Out.val (Value.bool b), HP [])) ?_; simp only [Bool.not_eq_true', Bool.not_eq_false', decide_eq_false_iff_not, decide_eq_true_eq] at *; rw [Bool.eq_iff_iff]; simp [inB] <;> omega) | trace_state)
theorem wiyb (s : List UInt8) (n0 : decide (s = [97, 108, 112, 104, 97]) = false) (n1 : decide (s = [100, 105, 103, 105, 116]) = true) (x : Nat) (hx : x < 256) : lim Try.prog cfg (.call 74 [str s, .int .u8 x]) (HP []) = some (.val (.bool (inB 48 57 x)), HP []) := by
 refine wfb hc wdb (Nat.le_of_ble_eq_true rfl) (Nat.le_of_ble_eq_true rfl) ?_
 unfold wjb
 generalize hr : (inB 48 57 x) = r
 (repeat' (first | (simp -implicitDefEqProofs (maxSteps := 2000000) (disch := first | with_reducible assumption | omega | (simp only [zS, zA, seval] <;> omega) | fail) only [zS, argl, insA, Go.Den.wm, ww, wbb, looks, wxb, wnb, idOf, riA, seval, Go.Den.wu, kK, *]) | (with_reducible (first | apply z1 | apply z2 | apply z3 | apply z4) <;> intro hq <;> (try simp only [zH] at hq) <;> (try (exfalso; omega)))))
 all_goals (first | (subst hr; refine congrArg (fun b => some (Out.val (Value.bool b), HP [])) ?_; rw [Bool.eq_iff_iff]; simp [inB] <;> omega) | (subst hr; refine congrArg (fun b => some (Out.val (Value.bool b), HP [])) ?_; simp only [Bool.not_eq_true', Bool.not_eq_false', decide_eq_false_iff_not, decide_eq_true_eq] at *; rw [Bool.eq_iff_iff]; simp [inB] <;> omega) | trace_state)
theorem wjyb (s : List UInt8) (n0 : decide (s = [97, 108, 112, 104, 97]) = false) (n1 : decide (s = [100, 105, 103, 105, 116]) = false) (n2 : decide (s = [97, 108, 110, 117, 109]) = true) (x : Nat) (hx : x < 256) : lim Try.prog cfg (.call 74 [str s, .int .u8 x]) (HP []) = some (.val (.bool (inB 65 90 x || (inB 97 122 x || inB 48 57 x))), HP []) := by
 refine wfb hc wdb (Nat.le_of_ble_eq_true rfl) (Nat.le_of_ble_eq_true rfl) ?_
 unfold wjb
 generalize hr : (inB 65 90 x || (inB 97 122 x || inB 48 57 x)) = r
 (repeat' (first | (simp -implicitDefEqProofs (maxSteps := 2000000) (disch := first | with_reducible assumption | omega | (simp only [zS, zA, seval] <;> omega) | fail) only [zS, argl, insA, Go.Den.wm, ww, wbb, looks, wxb, wnb, idOf, riA, seval, Go.Den.wu, kK, *]) | (with_reducible (first | apply z1 | apply z2 | apply z3 | apply z4) <;> intro hq <;> (try simp only [zH] at hq) <;> (try (exfalso; omega)))))
 all_goals (first | (subst hr; refine congrArg (fun b => some (Out.val (Value.bool b), HP [])) ?_; rw [Bool.eq_iff_iff]; simp [inB] <;> omega) | (subst hr; refine congrArg (fun b => some (Out.val (Value.bool b), HP [])) ?_; simp only [Bool.not_eq_true', Bool.not_eq_false', decide_eq_false_iff_not, decide_eq_true_eq] at *; rw [Bool.eq_iff_iff]; simp [inB] <;> omega) | trace_state)
theorem wkyb (s : List UInt8) (n0 : decide (s = [97, 108, 112, 104, 97]) = false) (n1 : decide (s = [100, 105, 103, 105, 116]) = false) (n2 : decide (s = [97, 108, 110, 117, 109]) = false) (n3 : decide (s = [117, 112, 112, 101, 114]) = true) (x : Nat) (hx : x < 256) : lim Try.prog cfg (.call 74 [str s, .int .u8 x]) (HP []) = some (.val (.bool (inB 65 90 x)), HP []) := by
 refine wfb hc wdb (Nat.le_of_ble_eq_true rfl) (Nat.le_of_ble_eq_true rfl) ?_
 unfold wjb
 generalize hr : (inB 65 90 x) = r
 (repeat' (first | (simp -implicitDefEqProofs (maxSteps := 2000000) (disch := first | with_reducible assumption | omega | (simp only [zS, zA, seval] <;> omega) | fail) only [zS, argl, insA, Go.Den.wm, ww, wbb, looks, wxb, wnb, idOf, riA, seval, Go.Den.wu, kK, *]) | (with_reducible (first | apply z1 | apply z2 | apply z3 | apply z4) <;> intro hq <;> (try simp only [zH] at hq) <;> (try (exfalso; omega)))))
 all_goals (first | (subst hr; refine congrArg (fun b => some (Out.val (Value.bool b), HP [])) ?_; rw [Bool.eq_iff_iff]; simp [inB] <;> omega) | (subst hr; refine congrArg (fun b => some (Out.val (Value.bool b), HP [])) ?_; simp only [Bool.not_eq_true', Bool.not_eq_false', decide_eq_false_iff_not, decide_eq_true_eq] at *; rw [Bool.eq_iff_iff]; simp [inB] <;> omega) | trace_state)
theorem wlyb (s : List UInt8) (n0 : decide (s = [97, 108, 112, 104, 97]) = false) (n1 : decide (s = [100, 105, 103, 105, 116]) = false) (n2 : decide (s = [97, 108, 110, 117, 109]) = false) (n3 : decide (s = [117, 112, 112, 101, 114]) = false) (n4 : decide (s = [108, 111, 119, 101, 114]) = true) (x : Nat) (hx : x < 256) : lim Try.prog cfg (.call 74 [str s, .int .u8 x]) (HP []) = some (.val (.bool (inB 97 122 x)), HP []) := by
 refine wfb hc wdb (Nat.le_of_ble_eq_true rfl) (Nat.le_of_ble_eq_true rfl) ?_
 unfold wjb
 generalize hr : (inB 97 122 x) = r
 (repeat' (first | (simp -implicitDefEqProofs (maxSteps := 2000000) (disch := first | with_reducible assumption | omega | (simp only [zS, zA, seval] <;> omega) | fail) only [zS, argl, insA, Go.Den.wm, ww, wbb, looks, wxb, wnb, idOf, riA, seval, Go.Den.wu, kK, *]) | (with_reducible (first | apply z1 | apply z2 | apply z3 | apply z4) <;> intro hq <;> (try simp only [zH] at hq) <;> (try (exfalso; omega)))))
 all_goals (first | (subst hr; refine congrArg (fun b => some (Out.val (Value.bool b), HP [])) ?_; rw [Bool.eq_iff_iff]; simp [inB] <;> omega) | (subst hr; refine congrArg (fun b => some (Out.val (Value.bool b), HP [])) ?_; simp only [Bool.not_eq_true', Bool.not_eq_false', decide_eq_false_iff_not, decide_eq_true_eq] at *; rw [Bool.eq_iff_iff]; simp [inB] <;> omega) | trace_state)
theorem wmyb (s : List UInt8) (n0 : decide (s = [97, 108, 112, 104, 97]) = false) (n1 : decide (s = [100, 105, 103, 105, 116]) = false) (n2 : decide (s = [97, 108, 110, 117, 109]) = false) (n3 : decide (s = [117, 112, 112, 101, 114]) = false) (n4 : decide (s = [108, 111, 119, 101, 114]) = false) (n5 : decide (s = [115, 112, 97, 99, 101]) = true) (x : Nat) (hx : x < 256) : lim Try.prog cfg (.call 74 [str s, .int .u8 x]) (HP []) = some (.val (.bool (decide (x = 32) || inB 9 13 x)), HP []) := by
 refine wfb hc wdb (Nat.le_of_ble_eq_true rfl) (Nat.le_of_ble_eq_true rfl) ?_
 unfold wjb
 generalize hr : (decide (x = 32) || inB 9 13 x) = r
 (repeat' (first | (simp -implicitDefEqProofs (maxSteps := 2000000) (disch := first | with_reducible assumption | omega | (simp only [zS, zA, seval] <;> omega) | fail) only [zS, argl, insA, Go.Den.wm, ww, wbb, looks, wxb, wnb, idOf, riA, seval, Go.Den.wu, kK, *]) | (with_reducible (first | apply z1 | apply z2 | apply z3 | apply z4) <;> intro hq <;> (try simp only [zH] at hq) <;> (try (exfalso; omega)))))
 all_goals (first | (subst hr; refine congrArg (fun b => some (Out.val (Value.bool b), HP [])) ?_; rw [Bool.eq_iff_iff]; simp [inB] <;> omega) | (subst hr; refine congrArg (fun b => some (Out.val (Value.bool b), HP [])) ?_; simp only [Bool.not_eq_true', Bool.not_eq_false', decide_eq_false_iff_not, decide_eq_true_eq] at *; rw [Bool.eq_iff_iff]; simp [inB] <;> omega) | trace_state)
theorem wnyb (s : List UInt8) (n0 : decide (s = [97, 108, 112, 104, 97]) = false) (n1 : decide (s = [100, 105, 103, 105, 116]) = false) (n2 : decide (s = [97, 108, 110, 117, 109]) = false) (n3 : decide (s = [117, 112, 112, 101, 114]) = false) (n4 : decide (s = [108, 111, 119, 101, 114]) = false) (n5 : decide (s = [115, 112, 97, 99, 101]) = false) (n6 : decide (s = [98, 108, 97, 110, 107]) = true) (x : Nat) (hx : x < 256) : lim Try.prog cfg (.call 74 [str s, .int .u8 x]) (HP []) = some (.val (.bool (decide (x = 32) || decide (x = 9))), HP []) := by
 refine wfb hc wdb (Nat.le_of_ble_eq_true rfl) (Nat.le_of_ble_eq_true rfl) ?_
 unfold wjb
 generalize hr : (decide (x = 32) || decide (x = 9)) = r
 (repeat' (first | (simp -implicitDefEqProofs (maxSteps := 2000000) (disch := first | with_reducible assumption | omega | (simp only [zS, zA, seval] <;> omega) | fail) only [zS, argl, insA, Go.Den.wm, ww, wbb, looks, wxb, wnb, idOf, riA, seval, Go.Den.wu, kK, *]) | (with_reducible (first | apply z1 | apply z2 | apply z3 | apply z4) <;> intro hq <;> (try simp only [zH] at hq) <;> (try (exfalso; omega)))))
 all_goals (first | (subst hr; refine congrArg (fun b => some (Out.val (Value.bool b), HP [])) ?_; rw [Bool.eq_iff_iff]; simp [inB] <;> omega) | (subst hr; refine congrArg (fun b => some (Out.val (Value.bool b), HP [])) ?_; simp only [Bool.not_eq_true', Bool.not_eq_false', decide_eq_false_iff_not, decide_eq_true_eq] at *; rw [Bool.eq_iff_iff]; simp [inB] <;> omega) | trace_state)
theorem woyb (s : List UInt8) (n0 : decide (s = [97, 108, 112, 104, 97]) = false) (n1 : decide (s = [100, 105, 103, 105, 116]) = false) (n2 : decide (s = [97, 108, 110, 117, 109]) = false) (n3 : decide (s = [117, 112, 112, 101, 114]) = false) (n4 : decide (s = [108, 111, 119, 101, 114]) = false) (n5 : decide (s = [115, 112, 97, 99, 101]) = false) (n6 : decide (s = [98, 108, 97, 110, 107]) = false) (n7 : decide (s = [112, 117, 110, 99, 116]) = true) (x : Nat) (hx : x < 256) : lim Try.prog cfg (.call 74 [str s, .int .u8 x]) (HP []) = some (.val (.bool (inB 33 126 x && (!inB 65 90 x && (!inB 97 122 x && !inB 48 57 x)))), HP []) := by
 refine wfb hc wdb (Nat.le_of_ble_eq_true rfl) (Nat.le_of_ble_eq_true rfl) ?_
 unfold wjb
 generalize hr : (inB 33 126 x && (!inB 65 90 x && (!inB 97 122 x && !inB 48 57 x))) = r
 (repeat' (first | (simp -implicitDefEqProofs (maxSteps := 2000000) (disch := first | with_reducible assumption | omega | (simp only [zS, zA, seval] <;> omega) | fail) only [zS, argl, insA, Go.Den.wm, ww, wbb, looks, wxb, wnb, idOf, riA, seval, Go.Den.wu, kK, *]) | (with_reducible (first | apply z1 | apply z2 | apply z3 | apply z4) <;> intro hq <;> (try simp only [zH] at hq) <;> (try (exfalso; omega)))))
 all_goals (first | (subst hr; refine congrArg (fun b => some (Out.val (Value.bool b), HP [])) ?_; rw [Bool.eq_iff_iff]; simp [inB] <;> omega) | (subst hr; refine congrArg (fun b => some (Out.val (Value.bool b), HP [])) ?_; simp only [Bool.not_eq_true', Bool.not_eq_false', decide_eq_false_iff_not, decide_eq_true_eq] at *; rw [Bool.eq_iff_iff]; simp [inB] <;> omega) | trace_state)
theorem wpyb (s : List UInt8) (n0 : decide (s = [97, 108, 112, 104, 97]) = false) (n1 : decide (s = [100, 105, 103, 105, 116]) = false) (n2 : decide (s = [97, 108, 110, 117, 109]) = false) (n3 : decide (s = [117, 112, 112, 101, 114]) = false) (n4 : decide (s = [108, 111, 119, 101, 114]) = false) (n5 : decide (s = [115, 112, 97, 99, 101]) = false) (n6 : decide (s = [98, 108, 97, 110, 107]) = false) (n7 : decide (s = [112, 117, 110, 99, 116]) = false) (n8 : decide (s = [112, 114, 105, 110, 116]) = true) (x : Nat) (hx : x < 256) : lim Try.prog cfg (.call 74 [str s, .int .u8 x]) (HP []) = some (.val (.bool (inB 33 126 x || decide (x = 32))), HP []) := by
 refine wfb hc wdb (Nat.le_of_ble_eq_true rfl) (Nat.le_of_ble_eq_true rfl) ?_
 unfold wjb
 generalize hr : (inB 33 126 x || decide (x = 32)) = r
 (repeat' (first | (simp -implicitDefEqProofs (maxSteps := 2000000) (disch := first | with_reducible assumption | omega | (simp only [zS, zA, seval] <;> omega) | fail) only [zS, argl, insA, Go.Den.wm, ww, wbb, looks, wxb, wnb, idOf, riA, seval, Go.Den.wu, kK, *]) | (with_reducible (first | apply z1 | apply z2 | apply z3 | apply z4) <;> intro hq <;> (try simp only [zH] at hq) <;> (try (exfalso; omega)))))
 all_goals (first | (subst hr; refine congrArg (fun b => some (Out.val (Value.bool b), HP [])) ?_; rw [Bool.eq_iff_iff]; simp [inB] <;> omega) | (subst hr; refine congrArg (fun b => some (Out.val (Value.bool b), HP [])) ?_; simp only [Bool.not_eq_true', Bool.not_eq_false', decide_eq_false_iff_not, decide_eq_true_eq] at *; rw [Bool.eq_iff_iff]; simp [inB] <;> omega) | trace_state)
theorem wqyb (s : List UInt8) (n0 : decide (s = [97, 108, 112, 104, 97]) = false) (n1 : decide (s = [100, 105, 103, 105, 116]) = false) (n2 : decide (s = [97, 108, 110, 117, 109]) = false) (n3 : decide (s = [117, 112, 112, 101, 114]) = false) (n4 : decide (s = [108, 111, 119, 101, 114]) = false) (n5 : decide (s = [115, 112, 97, 99, 101]) = false) (n6 : decide (s = [98, 108, 97, 110, 107]) = false) (n7 : decide (s = [112, 117, 110, 99, 116]) = false) (n8 : decide (s = [112, 114, 105, 110, 116]) = false) (n9 : decide (s = [103, 114, 97, 112, 104]) = true) (x : Nat) (hx : x < 256) : lim Try.prog cfg (.call 74 [str s, .int .u8 x]) (HP []) = some (.val (.bool (inB 33 126 x)), HP []) := by
 refine wfb hc wdb (Nat.le_of_ble_eq_true rfl) (Nat.le_of_ble_eq_true rfl) ?_
 unfold wjb
 generalize hr : (inB 33 126 x) = r
 (repeat' (first | (simp -implicitDefEqProofs (maxSteps := 2000000) (disch := first | with_reducible assumption | omega | (simp only [zS, zA, seval] <;> omega) | fail) only [zS, argl, insA, Go.Den.wm, ww, wbb, looks, wxb, wnb, idOf, riA, seval, Go.Den.wu, kK, *]) | (with_reducible (first | apply z1 | apply z2 | apply z3 | apply z4) <;> intro hq <;> (try simp only [zH] at hq) <;> (try (exfalso; omega)))))
 all_goals (first | (subst hr; refine congrArg (fun b => some (Out.val (Value.bool b), HP [])) ?_; rw [Bool.eq_iff_iff]; simp [inB] <;> omega) | (subst hr; refine congrArg (fun b => some (Out.val (Value.bool b), HP [])) ?_; simp only [Bool.not_eq_true', Bool.not_eq_false', decide_eq_false_iff_not, decide_eq_true_eq] at *; rw [Bool.eq_iff_iff]; simp [inB] <;> omega) | trace_state)
theorem wryb (s : List UInt8) (n0 : decide (s = [97, 108, 112, 104, 97]) = false) (n1 : decide (s = [100, 105, 103, 105, 116]) = false) (n2 : decide (s = [97, 108, 110, 117, 109]) = false) (n3 : decide (s = [117, 112, 112, 101, 114]) = false) (n4 : decide (s = [108, 111, 119, 101, 114]) = false) (n5 : decide (s = [115, 112, 97, 99, 101]) = false) (n6 : decide (s = [98, 108, 97, 110, 107]) = false) (n7 : decide (s = [112, 117, 110, 99, 116]) = false) (n8 : decide (s = [112, 114, 105, 110, 116]) = false) (n9 : decide (s = [103, 114, 97, 112, 104]) = false) (n10 : decide (s = [99, 110, 116, 114, 108]) = true) (x : Nat) (hx : x < 256) : lim Try.prog cfg (.call 74 [str s, .int .u8 x]) (HP []) = some (.val (.bool (decide (x < 32) || decide (x = 127))), HP []) := by
 refine wfb hc wdb (Nat.le_of_ble_eq_true rfl) (Nat.le_of_ble_eq_true rfl) ?_
 unfold wjb
 generalize hr : (decide (x < 32) || decide (x = 127)) = r
 (repeat' (first | (simp -implicitDefEqProofs (maxSteps := 2000000) (disch := first | with_reducible assumption | omega | (simp only [zS, zA, seval] <;> omega) | fail) only [zS, argl, insA, Go.Den.wm, ww, wbb, looks, wxb, wnb, idOf, riA, seval, Go.Den.wu, kK, *]) | (with_reducible (first | apply z1 | apply z2 | apply z3 | apply z4) <;> intro hq <;> (try simp only [zH] at hq) <;> (try (exfalso; omega)))))
 all_goals (first | (subst hr; refine congrArg (fun b => some (Out.val (Value.bool b), HP [])) ?_; rw [Bool.eq_iff_iff]; simp [inB] <;> omega) | (subst hr; refine congrArg (fun b => some (Out.val (Value.bool b), HP [])) ?_; simp only [Bool.not_eq_true', Bool.not_eq_false', decide_eq_false_iff_not, decide_eq_true_eq] at *; rw [Bool.eq_iff_iff]; simp [inB] <;> omega) | trace_state)
theorem wjob (s : List UInt8) (n0 : decide (s = [97, 108, 112, 104, 97]) = false) (n1 : decide (s = [100, 105, 103, 105, 116]) = false) (n2 : decide (s = [97, 108, 110, 117, 109]) = false) (n3 : decide (s = [117, 112, 112, 101, 114]) = false) (n4 : decide (s = [108, 111, 119, 101, 114]) = false) (n5 : decide (s = [115, 112, 97, 99, 101]) = false) (n6 : decide (s = [98, 108, 97, 110, 107]) = false) (n7 : decide (s = [112, 117, 110, 99, 116]) = false) (n8 : decide (s = [112, 114, 105, 110, 116]) = false) (n9 : decide (s = [103, 114, 97, 112, 104]) = false) (n10 : decide (s = [99, 110, 116, 114, 108]) = false) (n11 : decide (s = [120, 100, 105, 103, 105, 116]) = true) (x : Nat) (hx : x < 256) : lim Try.prog cfg (.call 74 [str s, .int .u8 x]) (HP []) = some (.val (.bool (inB 48 57 x || (inB 97 102 x || inB 65 70 x))), HP []) := by
 refine wfb hc wdb (Nat.le_of_ble_eq_true rfl) (Nat.le_of_ble_eq_true rfl) ?_
 unfold wjb
 generalize hr : (inB 48 57 x || (inB 97 102 x || inB 65 70 x)) = r
 (repeat' (first | (simp -implicitDefEqProofs (maxSteps := 2000000) (disch := first | with_reducible assumption | omega | (simp only [zS, zA, seval] <;> omega) | fail) only [zS, argl, insA, Go.Den.wm, ww, wbb, looks, wxb, wnb, idOf, riA, seval, Go.Den.wu, kK, *]) | (with_reducible (first | apply z1 | apply z2 | apply z3 | apply z4) <;> intro hq <;> (try simp only [zH] at hq) <;> (try (exfalso; omega)))))
 all_goals (first | (subst hr; refine congrArg (fun b => some (Out.val (Value.bool b), HP [])) ?_; rw [Bool.eq_iff_iff]; simp [inB] <;> omega) | (subst hr; refine congrArg (fun b => some (Out.val (Value.bool b), HP [])) ?_; simp only [Bool.not_eq_true', Bool.not_eq_false', decide_eq_false_iff_not, decide_eq_true_eq] at *; rw [Bool.eq_iff_iff]; simp [inB] <;> omega) | trace_state)
theorem rcl_no (s : List UInt8) (n0 : decide (s = [97, 108, 112, 104, 97]) = false) (n1 : decide (s = [100, 105, 103, 105, 116]) = false) (n2 : decide (s = [97, 108, 110, 117, 109]) = false) (n3 : decide (s = [117, 112, 112, 101, 114]) = false) (n4 : decide (s = [108, 111, 119, 101, 114]) = false) (n5 : decide (s = [115, 112, 97, 99, 101]) = false) (n6 : decide (s = [98, 108, 97, 110, 107]) = false) (n7 : decide (s = [112, 117, 110, 99, 116]) = false) (n8 : decide (s = [112, 114, 105, 110, 116]) = false) (n9 : decide (s = [103, 114, 97, 112, 104]) = false) (n10 : decide (s = [99, 110, 116, 114, 108]) = false) (n11 : decide (s = [120, 100, 105, 103, 105, 116]) = false) (x : Nat) (hx : x < 256) : lim Try.prog cfg (.call 74 [str s, .int .u8 x]) (HP []) = some (.val (.bool (false)), HP []) := by
 refine wfb hc wdb (Nat.le_of_ble_eq_true rfl) (Nat.le_of_ble_eq_true rfl) ?_
 unfold wjb
 (repeat' (first | (simp -implicitDefEqProofs (maxSteps := 2000000) (disch := first | with_reducible assumption | omega | (simp only [zS, zA, seval] <;> omega) | fail) only [zS, argl, insA, Go.Den.wm, ww, wbb, looks, wxb, wnb, idOf, riA, seval, Go.Den.wu, kK, *]) | (with_reducible (first | apply z1 | apply z2 | apply z3 | apply z4) <;> intro hq <;> (try simp only [zH] at hq) <;> (try (exfalso; omega)))))
theorem ev_rcl (s : List UInt8) (x : Nat) (hx : x < 256) : lim Try.prog cfg (.call 74 [str s, .int .u8 x]) (HP []) = some (.val (.bool (rclF s x)), HP []) := by
 by_cases n0 : s = ([97, 108, 112, 104, 97] : List UInt8)
 ·have h := whyb s (decide_eq_true n0) x hx
  rw [h]; subst n0; rfl
 by_cases n1 : s = ([100, 105, 103, 105, 116] : List UInt8)
 ·have h := wiyb s (decide_eq_false n0) (decide_eq_true n1) x hx
  rw [h]; subst n1; rfl
 by_cases n2 : s = ([97, 108, 110, 117, 109] : List UInt8)
 ·have h := wjyb s (decide_eq_false n0) (decide_eq_false n1) (decide_eq_true n2) x hx
  rw [h]; subst n2; rfl
 by_cases n3 : s = ([117, 112, 112, 101, 114] : List UInt8)
 ·have h := wkyb s (decide_eq_false n0) (decide_eq_false n1) (decide_eq_false n2) (decide_eq_true n3) x hx
  rw [h]; subst n3; rfl
 by_cases n4 : s = ([108, 111, 119, 101, 114] : List UInt8)
 ·have h := wlyb s (decide_eq_false n0) (decide_eq_false n1) (decide_eq_false n2) (decide_eq_false n3) (decide_eq_true n4) x hx
  rw [h]; subst n4; rfl
 by_cases n5 : s = ([115, 112, 97, 99, 101] : List UInt8)
 ·have h := wmyb s (decide_eq_false n0) (decide_eq_false n1) (decide_eq_false n2) (decide_eq_false n3) (decide_eq_false n4) (decide_eq_true n5) x hx
  rw [h]; subst n5; rfl
 by_cases n6 : s = ([98, 108, 97, 110, 107] : List UInt8)
 ·have h := wnyb s (decide_eq_false n0) (decide_eq_false n1) (decide_eq_false n2) (decide_eq_false n3) (decide_eq_false n4) (decide_eq_false n5) (decide_eq_true n6) x hx
  rw [h]; subst n6; rfl
 by_cases n7 : s = ([112, 117, 110, 99, 116] : List UInt8)
 ·have h := woyb s (decide_eq_false n0) (decide_eq_false n1) (decide_eq_false n2) (decide_eq_false n3) (decide_eq_false n4) (decide_eq_false n5) (decide_eq_false n6) (decide_eq_true n7) x hx
  rw [h]; subst n7; rfl
 by_cases n8 : s = ([112, 114, 105, 110, 116] : List UInt8)
 ·have h := wpyb s (decide_eq_false n0) (decide_eq_false n1) (decide_eq_false n2) (decide_eq_false n3) (decide_eq_false n4) (decide_eq_false n5) (decide_eq_false n6) (decide_eq_false n7) (decide_eq_true n8) x hx
  rw [h]; subst n8; rfl
 by_cases n9 : s = ([103, 114, 97, 112, 104] : List UInt8)
 ·have h := wqyb s (decide_eq_false n0) (decide_eq_false n1) (decide_eq_false n2) (decide_eq_false n3) (decide_eq_false n4) (decide_eq_false n5) (decide_eq_false n6) (decide_eq_false n7) (decide_eq_false n8) (decide_eq_true n9) x hx
  rw [h]; subst n9; rfl
 by_cases n10 : s = ([99, 110, 116, 114, 108] : List UInt8)
 ·have h := wryb s (decide_eq_false n0) (decide_eq_false n1) (decide_eq_false n2) (decide_eq_false n3) (decide_eq_false n4) (decide_eq_false n5) (decide_eq_false n6) (decide_eq_false n7) (decide_eq_false n8) (decide_eq_false n9) (decide_eq_true n10) x hx
  rw [h]; subst n10; rfl
 by_cases n11 : s = ([120, 100, 105, 103, 105, 116] : List UInt8)
 ·have h := wjob s (decide_eq_false n0) (decide_eq_false n1) (decide_eq_false n2) (decide_eq_false n3) (decide_eq_false n4) (decide_eq_false n5) (decide_eq_false n6) (decide_eq_false n7) (decide_eq_false n8) (decide_eq_false n9) (decide_eq_false n10) (decide_eq_true n11) x hx
  rw [h]; subst n11; rfl
 have hr : rclF s = fun _ => false := by
  simp [rclF, rclL, Ne.symm n0, Ne.symm n1, Ne.symm n2, Ne.symm n3, Ne.symm n4, Ne.symm n5, Ne.symm n6, Ne.symm n7, Ne.symm n8, Ne.symm n9, Ne.symm n10, Ne.symm n11]
 rw [rcl_no s (decide_eq_false n0) (decide_eq_false n1) (decide_eq_false n2) (decide_eq_false n3) (decide_eq_false n4) (decide_eq_false n5) (decide_eq_false n6) (decide_eq_false n7) (decide_eq_false n8) (decide_eq_false n9) (decide_eq_false n10) (decide_eq_false n11) x hx, hr]
end
end Go.Proofs.Ytjihbfdbgamcdaa
namespace Go.Proofs.Ytjihbfdbgamcdaa
set_option linter.unusedVariables false
set_option linter.unusedSimpArgs false
open Go.Den
noncomputable section
theorem wdc (lo hi n : Nat) (hl : lo < 256) (hh : hi < 256) (hn : hi + 1 - lo = n) : lim Try.prog cfg (.call 42 [.int .u8 lo, .int .u8 hi]) (HP []) = some (.val (sV (rng lo n)), HP []) := by
 subst hn; exact wdz lo hi hl hh
theorem wsyb (s : List UInt8) (n0 : decide (s = [97, 108, 112, 104, 97]) = true) : lim Try.prog cfg (.call 43 [str s]) (HP []) = some (.val (.tuple ⟨[sV (wwb), .bool true]⟩), HP []) := by
 have r0 := wdc 65 90 26 (by omega) (by omega) rfl
 rw [show ((65 : Nat) : Int) = 65 from rfl, show ((90 : Nat) : Int) = 90 from rfl, show rng 65 26 = wub from rfl] at r0
 have r1 := wdc 97 122 26 (by omega) (by omega) rfl
 rw [show ((97 : Nat) : Int) = 97 from rfl, show ((122 : Nat) : Int) = 122 from rfl, show rng 97 26 = wvb from rfl] at r1
 have r2 := wdc 48 57 10 (by omega) (by omega) rfl
 rw [show ((48 : Nat) : Int) = 48 from rfl, show ((57 : Nat) : Int) = 57 from rfl, show rng 48 10 = wlb from rfl] at r2
 have r3 := wdc 33 126 94 (by omega) (by omega) rfl
 rw [show ((33 : Nat) : Int) = 33 from rfl, show ((126 : Nat) : Int) = 126 from rfl, show rng 33 94 = whd from rfl] at r3
 have j0 := wnc [wub, wvb] (by simp)
 rw [wfc, show ([wub, wvb] : List (BitVec 256)).length = 2 from rfl, show wub ||| wvb = wwb from rfl] at j0
 have j1 := wnc [wwb, wlb] (by simp)
 rw [wfc, show ([wwb, wlb] : List (BitVec 256)).length = 2 from rfl, show wwb ||| wlb = wjd from rfl] at j1
 have o0 := wug [32, 9] (by simp) (by simp)
 rw [show ([32, 9] : List Nat).length = 2 from rfl, show byC [32, 9] = [.int .u8 32, .int .u8 9] from rfl, show ofL [32, 9] = wge from rfl] at o0
 generalize wub = u at *
 generalize wvb = lw at *
 generalize wlb = dg at *
 generalize whd = gr at *
 generalize wwb = al at *
 generalize wjd = an at *
 generalize wge = bl at *
 refine wfb hc wcc (Nat.le_of_ble_eq_true rfl) (Nat.le_of_ble_eq_true rfl) ?_
 unfold wlc
 (repeat' (first | (simp -implicitDefEqProofs (maxSteps := 2000000) (disch := first | with_reducible assumption | omega | (simp only [zS, zA, seval, wac, wcd, wh, zD, s2l, s2n, s2s, s3l, s3n, s3s] <;> omega) | fail) only [zS, argl, insA, Go.Den.wm, ww, wbb, looks, wxb, wnb, idOf, riA, seval, kK, wsc, wne, wwe, wif, wh, *, zT, s2l, s2n, s2s, s3l, s3n, s3s]) | (with_reducible (first | apply z1 | apply z2 | apply z3 | apply z4) <;> intro hq <;> (try simp only [zH] at hq) <;> (try (exfalso; omega))) | (with_reducible apply z5; (case hl => (repeat (first | exact .nil | with_reducible apply z6 | with_reducible apply z7))); (case h => kernel_rfl))))
 all_goals rfl
theorem wtyb (s : List UInt8) (n0 : decide (s = [97, 108, 112, 104, 97]) = false) (n1 : decide (s = [100, 105, 103, 105, 116]) = true) : lim Try.prog cfg (.call 43 [str s]) (HP []) = some (.val (.tuple ⟨[sV (wlb), .bool true]⟩), HP []) := by
 have r0 := wdc 65 90 26 (by omega) (by omega) rfl
 rw [show ((65 : Nat) : Int) = 65 from rfl, show ((90 : Nat) : Int) = 90 from rfl, show rng 65 26 = wub from rfl] at r0
 have r1 := wdc 97 122 26 (by omega) (by omega) rfl
 rw [show ((97 : Nat) : Int) = 97 from rfl, show ((122 : Nat) : Int) = 122 from rfl, show rng 97 26 = wvb from rfl] at r1
 have r2 := wdc 48 57 10 (by omega) (by omega) rfl
 rw [show ((48 : Nat) : Int) = 48 from rfl, show ((57 : Nat) : Int) = 57 from rfl, show rng 48 10 = wlb from rfl] at r2
 have r3 := wdc 33 126 94 (by omega) (by omega) rfl
 rw [show ((33 : Nat) : Int) = 33 from rfl, show ((126 : Nat) : Int) = 126 from rfl, show rng 33 94 = whd from rfl] at r3
 have j0 := wnc [wub, wvb] (by simp)
 rw [wfc, show ([wub, wvb] : List (BitVec 256)).length = 2 from rfl, show wub ||| wvb = wwb from rfl] at j0
 have j1 := wnc [wwb, wlb] (by simp)
 rw [wfc, show ([wwb, wlb] : List (BitVec 256)).length = 2 from rfl, show wwb ||| wlb = wjd from rfl] at j1
 have o0 := wug [32, 9] (by simp) (by simp)
 rw [show ([32, 9] : List Nat).length = 2 from rfl, show byC [32, 9] = [.int .u8 32, .int .u8 9] from rfl, show ofL [32, 9] = wge from rfl] at o0
 generalize wub = u at *
 generalize wvb = lw at *
 generalize wlb = dg at *
 generalize whd = gr at *
 generalize wwb = al at *
 generalize wjd = an at *
 generalize wge = bl at *
 refine wfb hc wcc (Nat.le_of_ble_eq_true rfl) (Nat.le_of_ble_eq_true rfl) ?_
 unfold wlc
 (repeat' (first | (simp -implicitDefEqProofs (maxSteps := 2000000) (disch := first | with_reducible assumption | omega | (simp only [zS, zA, seval, wac, wcd, wh, zD, s2l, s2n, s2s, s3l, s3n, s3s] <;> omega) | fail) only [zS, argl, insA, Go.Den.wm, ww, wbb, looks, wxb, wnb, idOf, riA, seval, kK, wsc, wne, wwe, wif, wh, *, zT, s2l, s2n, s2s, s3l, s3n, s3s]) | (with_reducible (first | apply z1 | apply z2 | apply z3 | apply z4) <;> intro hq <;> (try simp only [zH] at hq) <;> (try (exfalso; omega))) | (with_reducible apply z5; (case hl => (repeat (first | exact .nil | with_reducible apply z6 | with_reducible apply z7))); (case h => kernel_rfl))))
 all_goals rfl
theorem wuyb (s : List UInt8) (n0 : decide (s = [97, 108, 112, 104, 97]) = false) (n1 : decide (s = [100, 105, 103, 105, 116]) = false) (n2 : decide (s = [97, 108, 110, 117, 109]) = true) : lim Try.prog cfg (.call 43 [str s]) (HP []) = some (.val (.tuple ⟨[sV (wjd), .bool true]⟩), HP []) := by
 have r0 := wdc 65 90 26 (by omega) (by omega) rfl
 rw [show ((65 : Nat) : Int) = 65 from rfl, show ((90 : Nat) : Int) = 90 from rfl, show rng 65 26 = wub from rfl] at r0
 have r1 := wdc 97 122 26 (by omega) (by omega) rfl
 rw [show ((97 : Nat) : Int) = 97 from rfl, show ((122 : Nat) : Int) = 122 from rfl, show rng 97 26 = wvb from rfl] at r1
 have r2 := wdc 48 57 10 (by omega) (by omega) rfl
 rw [show ((48 : Nat) : Int) = 48 from rfl, show ((57 : Nat) : Int) = 57 from rfl, show rng 48 10 = wlb from rfl] at r2
 have r3 := wdc 33 126 94 (by omega) (by omega) rfl
 rw [show ((33 : Nat) : Int) = 33 from rfl, show ((126 : Nat) : Int) = 126 from rfl, show rng 33 94 = whd from rfl] at r3
 have j0 := wnc [wub, wvb] (by simp)
 rw [wfc, show ([wub, wvb] : List (BitVec 256)).length = 2 from rfl, show wub ||| wvb = wwb from rfl] at j0
 have j1 := wnc [wwb, wlb] (by simp)
 rw [wfc, show ([wwb, wlb] : List (BitVec 256)).length = 2 from rfl, show wwb ||| wlb = wjd from rfl] at j1
 have o0 := wug [32, 9] (by simp) (by simp)
 rw [show ([32, 9] : List Nat).length = 2 from rfl, show byC [32, 9] = [.int .u8 32, .int .u8 9] from rfl, show ofL [32, 9] = wge from rfl] at o0
 generalize wub = u at *
 generalize wvb = lw at *
 generalize wlb = dg at *
 generalize whd = gr at *
 generalize wwb = al at *
 generalize wjd = an at *
 generalize wge = bl at *
 refine wfb hc wcc (Nat.le_of_ble_eq_true rfl) (Nat.le_of_ble_eq_true rfl) ?_
 unfold wlc
 (repeat' (first | (simp -implicitDefEqProofs (maxSteps := 2000000) (disch := first | with_reducible assumption | omega | (simp only [zS, zA, seval, wac, wcd, wh, zD, s2l, s2n, s2s, s3l, s3n, s3s] <;> omega) | fail) only [zS, argl, insA, Go.Den.wm, ww, wbb, looks, wxb, wnb, idOf, riA, seval, kK, wsc, wne, wwe, wif, wh, *, zT, s2l, s2n, s2s, s3l, s3n, s3s]) | (with_reducible (first | apply z1 | apply z2 | apply z3 | apply z4) <;> intro hq <;> (try simp only [zH] at hq) <;> (try (exfalso; omega))) | (with_reducible apply z5; (case hl => (repeat (first | exact .nil | with_reducible apply z6 | with_reducible apply z7))); (case h => kernel_rfl))))
 all_goals rfl
theorem wvyb (s : List UInt8) (n0 : decide (s = [97, 108, 112, 104, 97]) = false) (n1 : decide (s = [100, 105, 103, 105, 116]) = false) (n2 : decide (s = [97, 108, 110, 117, 109]) = false) (n3 : decide (s = [117, 112, 112, 101, 114]) = true) : lim Try.prog cfg (.call 43 [str s]) (HP []) = some (.val (.tuple ⟨[sV (wub), .bool true]⟩), HP []) := by
 have r0 := wdc 65 90 26 (by omega) (by omega) rfl
 rw [show ((65 : Nat) : Int) = 65 from rfl, show ((90 : Nat) : Int) = 90 from rfl, show rng 65 26 = wub from rfl] at r0
 have r1 := wdc 97 122 26 (by omega) (by omega) rfl
 rw [show ((97 : Nat) : Int) = 97 from rfl, show ((122 : Nat) : Int) = 122 from rfl, show rng 97 26 = wvb from rfl] at r1
 have r2 := wdc 48 57 10 (by omega) (by omega) rfl
 rw [show ((48 : Nat) : Int) = 48 from rfl, show ((57 : Nat) : Int) = 57 from rfl, show rng 48 10 = wlb from rfl] at r2
 have r3 := wdc 33 126 94 (by omega) (by omega) rfl
 rw [show ((33 : Nat) : Int) = 33 from rfl, show ((126 : Nat) : Int) = 126 from rfl, show rng 33 94 = whd from rfl] at r3
 have j0 := wnc [wub, wvb] (by simp)
 rw [wfc, show ([wub, wvb] : List (BitVec 256)).length = 2 from rfl, show wub ||| wvb = wwb from rfl] at j0
 have j1 := wnc [wwb, wlb] (by simp)
 rw [wfc, show ([wwb, wlb] : List (BitVec 256)).length = 2 from rfl, show wwb ||| wlb = wjd from rfl] at j1
 have o0 := wug [32, 9] (by simp) (by simp)
 rw [show ([32, 9] : List Nat).length = 2 from rfl, show byC [32, 9] = [.int .u8 32, .int .u8 9] from rfl, show ofL [32, 9] = wge from rfl] at o0
 generalize wub = u at *
 generalize wvb = lw at *
 generalize wlb = dg at *
 generalize whd = gr at *
 generalize wwb = al at *
 generalize wjd = an at *
 generalize wge = bl at *
 refine wfb hc wcc (Nat.le_of_ble_eq_true rfl) (Nat.le_of_ble_eq_true rfl) ?_
 unfold wlc
 (repeat' (first | (simp -implicitDefEqProofs (maxSteps := 2000000) (disch := first | with_reducible assumption | omega | (simp only [zS, zA, seval, wac, wcd, wh, zD, s2l, s2n, s2s, s3l, s3n, s3s] <;> omega) | fail) only [zS, argl, insA, Go.Den.wm, ww, wbb, looks, wxb, wnb, idOf, riA, seval, kK, wsc, wne, wwe, wif, wh, *, zT, s2l, s2n, s2s, s3l, s3n, s3s]) | (with_reducible (first | apply z1 | apply z2 | apply z3 | apply z4) <;> intro hq <;> (try simp only [zH] at hq) <;> (try (exfalso; omega))) | (with_reducible apply z5; (case hl => (repeat (first | exact .nil | with_reducible apply z6 | with_reducible apply z7))); (case h => kernel_rfl))))
 all_goals rfl
theorem wwyb (s : List UInt8) (n0 : decide (s = [97, 108, 112, 104, 97]) = false) (n1 : decide (s = [100, 105, 103, 105, 116]) = false) (n2 : decide (s = [97, 108, 110, 117, 109]) = false) (n3 : decide (s = [117, 112, 112, 101, 114]) = false) (n4 : decide (s = [108, 111, 119, 101, 114]) = true) : lim Try.prog cfg (.call 43 [str s]) (HP []) = some (.val (.tuple ⟨[sV (wvb), .bool true]⟩), HP []) := by
 have r0 := wdc 65 90 26 (by omega) (by omega) rfl
 rw [show ((65 : Nat) : Int) = 65 from rfl, show ((90 : Nat) : Int) = 90 from rfl, show rng 65 26 = wub from rfl] at r0
 have r1 := wdc 97 122 26 (by omega) (by omega) rfl
 rw [show ((97 : Nat) : Int) = 97 from rfl, show ((122 : Nat) : Int) = 122 from rfl, show rng 97 26 = wvb from rfl] at r1
 have r2 := wdc 48 57 10 (by omega) (by omega) rfl
 rw [show ((48 : Nat) : Int) = 48 from rfl, show ((57 : Nat) : Int) = 57 from rfl, show rng 48 10 = wlb from rfl] at r2
 have r3 := wdc 33 126 94 (by omega) (by omega) rfl
 rw [show ((33 : Nat) : Int) = 33 from rfl, show ((126 : Nat) : Int) = 126 from rfl, show rng 33 94 = whd from rfl] at r3
 have j0 := wnc [wub, wvb] (by simp)
 rw [wfc, show ([wub, wvb] : List (BitVec 256)).length = 2 from rfl, show wub ||| wvb = wwb from rfl] at j0
 have j1 := wnc [wwb, wlb] (by simp)
 rw [wfc, show ([wwb, wlb] : List (BitVec 256)).length = 2 from rfl, show wwb ||| wlb = wjd from rfl] at j1
 have o0 := wug [32, 9] (by simp) (by simp)
 rw [show ([32, 9] : List Nat).length = 2 from rfl, show byC [32, 9] = [.int .u8 32, .int .u8 9] from rfl, show ofL [32, 9] = wge from rfl] at o0
 generalize wub = u at *
 generalize wvb = lw at *
 generalize wlb = dg at *
 generalize whd = gr at *
 generalize wwb = al at *
 generalize wjd = an at *
 generalize wge = bl at *
 refine wfb hc wcc (Nat.le_of_ble_eq_true rfl) (Nat.le_of_ble_eq_true rfl) ?_
 unfold wlc
 (repeat' (first | (simp -implicitDefEqProofs (maxSteps := 2000000) (disch := first | with_reducible assumption | omega | (simp only [zS, zA, seval, wac, wcd, wh, zD, s2l, s2n, s2s, s3l, s3n, s3s] <;> omega) | fail) only [zS, argl, insA, Go.Den.wm, ww, wbb, looks, wxb, wnb, idOf, riA, seval, kK, wsc, wne, wwe, wif, wh, *, zT, s2l, s2n, s2s, s3l, s3n, s3s]) | (with_reducible (first | apply z1 | apply z2 | apply z3 | apply z4) <;> intro hq <;> (try simp only [zH] at hq) <;> (try (exfalso; omega))) | (with_reducible apply z5; (case hl => (repeat (first | exact .nil | with_reducible apply z6 | with_reducible apply z7))); (case h => kernel_rfl))))
 all_goals rfl
theorem wxyb (s : List UInt8) (n0 : decide (s = [97, 108, 112, 104, 97]) = false) (n1 : decide (s = [100, 105, 103, 105, 116]) = false) (n2 : decide (s = [97, 108, 110, 117, 109]) = false) (n3 : decide (s = [117, 112, 112, 101, 114]) = false) (n4 : decide (s = [108, 111, 119, 101, 114]) = false) (n5 : decide (s = [115, 112, 97, 99, 101]) = true) : lim Try.prog cfg (.call 43 [str s]) (HP []) = some (.val (.tuple ⟨[sV (ofL [32] ||| rng 9 5), .bool true]⟩), HP []) := by
 have r0 := wdc 65 90 26 (by omega) (by omega) rfl
 rw [show ((65 : Nat) : Int) = 65 from rfl, show ((90 : Nat) : Int) = 90 from rfl, show rng 65 26 = wub from rfl] at r0
 have r1 := wdc 97 122 26 (by omega) (by omega) rfl
 rw [show ((97 : Nat) : Int) = 97 from rfl, show ((122 : Nat) : Int) = 122 from rfl, show rng 97 26 = wvb from rfl] at r1
 have r2 := wdc 48 57 10 (by omega) (by omega) rfl
 rw [show ((48 : Nat) : Int) = 48 from rfl, show ((57 : Nat) : Int) = 57 from rfl, show rng 48 10 = wlb from rfl] at r2
 have r3 := wdc 33 126 94 (by omega) (by omega) rfl
 rw [show ((33 : Nat) : Int) = 33 from rfl, show ((126 : Nat) : Int) = 126 from rfl, show rng 33 94 = whd from rfl] at r3
 have r4 := wdc 9 13 5 (by omega) (by omega) rfl
 rw [show ((9 : Nat) : Int) = 9 from rfl, show ((13 : Nat) : Int) = 13 from rfl] at r4
 have j0 := wnc [wub, wvb] (by simp)
 rw [wfc, show ([wub, wvb] : List (BitVec 256)).length = 2 from rfl, show wub ||| wvb = wwb from rfl] at j0
 have j1 := wnc [wwb, wlb] (by simp)
 rw [wfc, show ([wwb, wlb] : List (BitVec 256)).length = 2 from rfl, show wwb ||| wlb = wjd from rfl] at j1
 have j2 := wnc [ofL [32], rng 9 5] (by simp)
 rw [wfc, show ([ofL [32], rng 9 5] : List (BitVec 256)).length = 2 from rfl] at j2
 have o0 := wug [32, 9] (by simp) (by simp)
 rw [show ([32, 9] : List Nat).length = 2 from rfl, show byC [32, 9] = [.int .u8 32, .int .u8 9] from rfl, show ofL [32, 9] = wge from rfl] at o0
 have o1 := wug [32] (by simp) (by simp)
 rw [show ([32] : List Nat).length = 1 from rfl, show byC [32] = [.int .u8 32] from rfl] at o1
 generalize wub = u at *
 generalize wvb = lw at *
 generalize wlb = dg at *
 generalize whd = gr at *
 generalize wwb = al at *
 generalize wjd = an at *
 generalize wge = bl at *
 generalize ofL [32] = q1 at *
 generalize rng 9 5 = q2 at *
 refine wfb hc wcc (Nat.le_of_ble_eq_true rfl) (Nat.le_of_ble_eq_true rfl) ?_
 unfold wlc
 (repeat' (first | (simp -implicitDefEqProofs (maxSteps := 2000000) (disch := first | with_reducible assumption | omega | (simp only [zS, zA, seval, wac, wcd, wh, zD, s2l, s2n, s2s, s3l, s3n, s3s] <;> omega) | fail) only [zS, argl, insA, Go.Den.wm, ww, wbb, looks, wxb, wnb, idOf, riA, seval, kK, wsc, wne, wwe, wif, wh, *, zT, s2l, s2n, s2s, s3l, s3n, s3s]) | (with_reducible (first | apply z1 | apply z2 | apply z3 | apply z4) <;> intro hq <;> (try simp only [zH] at hq) <;> (try (exfalso; omega))) | (with_reducible apply z5; (case hl => (repeat (first | exact .nil | with_reducible apply z6 | with_reducible apply z7))); (case h => kernel_rfl))))
 all_goals rfl
theorem wyyb (s : List UInt8) (n0 : decide (s = [97, 108, 112, 104, 97]) = false) (n1 : decide (s = [100, 105, 103, 105, 116]) = false) (n2 : decide (s = [97, 108, 110, 117, 109]) = false) (n3 : decide (s = [117, 112, 112, 101, 114]) = false) (n4 : decide (s = [108, 111, 119, 101, 114]) = false) (n5 : decide (s = [115, 112, 97, 99, 101]) = false) (n6 : decide (s = [98, 108, 97, 110, 107]) = true) : lim Try.prog cfg (.call 43 [str s]) (HP []) = some (.val (.tuple ⟨[sV (wge), .bool true]⟩), HP []) := by
 have r0 := wdc 65 90 26 (by omega) (by omega) rfl
 rw [show ((65 : Nat) : Int) = 65 from rfl, show ((90 : Nat) : Int) = 90 from rfl, show rng 65 26 = wub from rfl] at r0
 have r1 := wdc 97 122 26 (by omega) (by omega) rfl
 rw [show ((97 : Nat) : Int) = 97 from rfl, show ((122 : Nat) : Int) = 122 from rfl, show rng 97 26 = wvb from rfl] at r1
 have r2 := wdc 48 57 10 (by omega) (by omega) rfl
 rw [show ((48 : Nat) : Int) = 48 from rfl, show ((57 : Nat) : Int) = 57 from rfl, show rng 48 10 = wlb from rfl] at r2
 have r3 := wdc 33 126 94 (by omega) (by omega) rfl
 rw [show ((33 : Nat) : Int) = 33 from rfl, show ((126 : Nat) : Int) = 126 from rfl, show rng 33 94 = whd from rfl] at r3
 have j0 := wnc [wub, wvb] (by simp)
 rw [wfc, show ([wub, wvb] : List (BitVec 256)).length = 2 from rfl, show wub ||| wvb = wwb from rfl] at j0
 have j1 := wnc [wwb, wlb] (by simp)
 rw [wfc, show ([wwb, wlb] : List (BitVec 256)).length = 2 from rfl, show wwb ||| wlb = wjd from rfl] at j1
 have o0 := wug [32, 9] (by simp) (by simp)
 rw [show ([32, 9] : List Nat).length = 2 from rfl, show byC [32, 9] = [.int .u8 32, .int .u8 9] from rfl, show ofL [32, 9] = wge from rfl] at o0
 generalize wub = u at *
 generalize wvb = lw at *
 generalize wlb = dg at *
 generalize whd = gr at *
 generalize wwb = al at *
 generalize wjd = an at *
 generalize wge = bl at *
 refine wfb hc wcc (Nat.le_of_ble_eq_true rfl) (Nat.le_of_ble_eq_true rfl) ?_
 unfold wlc
 (repeat' (first | (simp -implicitDefEqProofs (maxSteps := 2000000) (disch := first | with_reducible assumption | omega | (simp only [zS, zA, seval, wac, wcd, wh, zD, s2l, s2n, s2s, s3l, s3n, s3s] <;> omega) | fail) only [zS, argl, insA, Go.Den.wm, ww, wbb, looks, wxb, wnb, idOf, riA, seval, kK, wsc, wne, wwe, wif, wh, *, zT, s2l, s2n, s2s, s3l, s3n, s3s]) | (with_reducible (first | apply z1 | apply z2 | apply z3 | apply z4) <;> intro hq <;> (try simp only [zH] at hq) <;> (try (exfalso; omega))) | (with_reducible apply z5; (case hl => (repeat (first | exact .nil | with_reducible apply z6 | with_reducible apply z7))); (case h => kernel_rfl))))
 all_goals rfl
theorem wzyb (s : List UInt8) (n0 : decide (s = [97, 108, 112, 104, 97]) = false) (n1 : decide (s = [100, 105, 103, 105, 116]) = false) (n2 : decide (s = [97, 108, 110, 117, 109]) = false) (n3 : decide (s = [117, 112, 112, 101, 114]) = false) (n4 : decide (s = [108, 111, 119, 101, 114]) = false) (n5 : decide (s = [115, 112, 97, 99, 101]) = false) (n6 : decide (s = [98, 108, 97, 110, 107]) = false) (n7 : decide (s = [112, 117, 110, 99, 116]) = true) : lim Try.prog cfg (.call 43 [str s]) (HP []) = some (.val (.tuple ⟨[sV (lessS whd wjd), .bool true]⟩), HP []) := by
 have r0 := wdc 65 90 26 (by omega) (by omega) rfl
 rw [show ((65 : Nat) : Int) = 65 from rfl, show ((90 : Nat) : Int) = 90 from rfl, show rng 65 26 = wub from rfl] at r0
 have r1 := wdc 97 122 26 (by omega) (by omega) rfl
 rw [show ((97 : Nat) : Int) = 97 from rfl, show ((122 : Nat) : Int) = 122 from rfl, show rng 97 26 = wvb from rfl] at r1
 have r2 := wdc 48 57 10 (by omega) (by omega) rfl
 rw [show ((48 : Nat) : Int) = 48 from rfl, show ((57 : Nat) : Int) = 57 from rfl, show rng 48 10 = wlb from rfl] at r2
 have r3 := wdc 33 126 94 (by omega) (by omega) rfl
 rw [show ((33 : Nat) : Int) = 33 from rfl, show ((126 : Nat) : Int) = 126 from rfl, show rng 33 94 = whd from rfl] at r3
 have j0 := wnc [wub, wvb] (by simp)
 rw [wfc, show ([wub, wvb] : List (BitVec 256)).length = 2 from rfl, show wub ||| wvb = wwb from rfl] at j0
 have j1 := wnc [wwb, wlb] (by simp)
 rw [wfc, show ([wwb, wlb] : List (BitVec 256)).length = 2 from rfl, show wwb ||| wlb = wjd from rfl] at j1
 have o0 := wug [32, 9] (by simp) (by simp)
 rw [show ([32, 9] : List Nat).length = 2 from rfl, show byC [32, 9] = [.int .u8 32, .int .u8 9] from rfl, show ofL [32, 9] = wge from rfl] at o0
 have l0 := ev_less whd wjd
 rw [show ~~~(~~~whd ||| wjd) = lessS whd wjd from rfl] at l0
 generalize lessS whd wjd = ls at *
 generalize wub = u at *
 generalize wvb = lw at *
 generalize wlb = dg at *
 generalize whd = gr at *
 generalize wwb = al at *
 generalize wjd = an at *
 generalize wge = bl at *
 refine wfb hc wcc (Nat.le_of_ble_eq_true rfl) (Nat.le_of_ble_eq_true rfl) ?_
 unfold wlc
 (repeat' (first | (simp -implicitDefEqProofs (maxSteps := 2000000) (disch := first | with_reducible assumption | omega | (simp only [zS, zA, seval, wac, wcd, wh, zD, s2l, s2n, s2s, s3l, s3n, s3s] <;> omega) | fail) only [zS, argl, insA, Go.Den.wm, ww, wbb, looks, wxb, wnb, idOf, riA, seval, kK, wsc, wne, wwe, wif, wh, *, zT, s2l, s2n, s2s, s3l, s3n, s3s]) | (with_reducible (first | apply z1 | apply z2 | apply z3 | apply z4) <;> intro hq <;> (try simp only [zH] at hq) <;> (try (exfalso; omega))) | (with_reducible apply z5; (case hl => (repeat (first | exact .nil | with_reducible apply z6 | with_reducible apply z7))); (case h => kernel_rfl))))
 all_goals rfl
theorem wazb (s : List UInt8) (n0 : decide (s = [97, 108, 112, 104, 97]) = false) (n1 : decide (s = [100, 105, 103, 105, 116]) = false) (n2 : decide (s = [97, 108, 110, 117, 109]) = false) (n3 : decide (s = [117, 112, 112, 101, 114]) = false) (n4 : decide (s = [108, 111, 119, 101, 114]) = false) (n5 : decide (s = [115, 112, 97, 99, 101]) = false) (n6 : decide (s = [98, 108, 97, 110, 107]) = false) (n7 : decide (s = [112, 117, 110, 99, 116]) = false) (n8 : decide (s = [112, 114, 105, 110, 116]) = true) : lim Try.prog cfg (.call 43 [str s]) (HP []) = some (.val (.tuple ⟨[sV (rng 32 95), .bool true]⟩), HP []) := by
 have r0 := wdc 65 90 26 (by omega) (by omega) rfl
 rw [show ((65 : Nat) : Int) = 65 from rfl, show ((90 : Nat) : Int) = 90 from rfl, show rng 65 26 = wub from rfl] at r0
 have r1 := wdc 97 122 26 (by omega) (by omega) rfl
 rw [show ((97 : Nat) : Int) = 97 from rfl, show ((122 : Nat) : Int) = 122 from rfl, show rng 97 26 = wvb from rfl] at r1
 have r2 := wdc 48 57 10 (by omega) (by omega) rfl
 rw [show ((48 : Nat) : Int) = 48 from rfl, show ((57 : Nat) : Int) = 57 from rfl, show rng 48 10 = wlb from rfl] at r2
 have r3 := wdc 33 126 94 (by omega) (by omega) rfl
 rw [show ((33 : Nat) : Int) = 33 from rfl, show ((126 : Nat) : Int) = 126 from rfl, show rng 33 94 = whd from rfl] at r3
 have r4 := wdc 32 126 95 (by omega) (by omega) rfl
 rw [show ((32 : Nat) : Int) = 32 from rfl, show ((126 : Nat) : Int) = 126 from rfl] at r4
 have j0 := wnc [wub, wvb] (by simp)
 rw [wfc, show ([wub, wvb] : List (BitVec 256)).length = 2 from rfl, show wub ||| wvb = wwb from rfl] at j0
 have j1 := wnc [wwb, wlb] (by simp)
 rw [wfc, show ([wwb, wlb] : List (BitVec 256)).length = 2 from rfl, show wwb ||| wlb = wjd from rfl] at j1
 have o0 := wug [32, 9] (by simp) (by simp)
 rw [show ([32, 9] : List Nat).length = 2 from rfl, show byC [32, 9] = [.int .u8 32, .int .u8 9] from rfl, show ofL [32, 9] = wge from rfl] at o0
 generalize wub = u at *
 generalize wvb = lw at *
 generalize wlb = dg at *
 generalize whd = gr at *
 generalize wwb = al at *
 generalize wjd = an at *
 generalize wge = bl at *
 generalize rng 32 95 = q1 at *
 refine wfb hc wcc (Nat.le_of_ble_eq_true rfl) (Nat.le_of_ble_eq_true rfl) ?_
 unfold wlc
 (repeat' (first | (simp -implicitDefEqProofs (maxSteps := 2000000) (disch := first | with_reducible assumption | omega | (simp only [zS, zA, seval, wac, wcd, wh, zD, s2l, s2n, s2s, s3l, s3n, s3s] <;> omega) | fail) only [zS, argl, insA, Go.Den.wm, ww, wbb, looks, wxb, wnb, idOf, riA, seval, kK, wsc, wne, wwe, wif, wh, *, zT, s2l, s2n, s2s, s3l, s3n, s3s]) | (with_reducible (first | apply z1 | apply z2 | apply z3 | apply z4) <;> intro hq <;> (try simp only [zH] at hq) <;> (try (exfalso; omega))) | (with_reducible apply z5; (case hl => (repeat (first | exact .nil | with_reducible apply z6 | with_reducible apply z7))); (case h => kernel_rfl))))
 all_goals rfl
theorem wbzb (s : List UInt8) (n0 : decide (s = [97, 108, 112, 104, 97]) = false) (n1 : decide (s = [100, 105, 103, 105, 116]) = false) (n2 : decide (s = [97, 108, 110, 117, 109]) = false) (n3 : decide (s = [117, 112, 112, 101, 114]) = false) (n4 : decide (s = [108, 111, 119, 101, 114]) = false) (n5 : decide (s = [115, 112, 97, 99, 101]) = false) (n6 : decide (s = [98, 108, 97, 110, 107]) = false) (n7 : decide (s = [112, 117, 110, 99, 116]) = false) (n8 : decide (s = [112, 114, 105, 110, 116]) = false) (n9 : decide (s = [103, 114, 97, 112, 104]) = true) : lim Try.prog cfg (.call 43 [str s]) (HP []) = some (.val (.tuple ⟨[sV (whd), .bool true]⟩), HP []) := by
 have r0 := wdc 65 90 26 (by omega) (by omega) rfl
 rw [show ((65 : Nat) : Int) = 65 from rfl, show ((90 : Nat) : Int) = 90 from rfl, show rng 65 26 = wub from rfl] at r0
 have r1 := wdc 97 122 26 (by omega) (by omega) rfl
 rw [show ((97 : Nat) : Int) = 97 from rfl, show ((122 : Nat) : Int) = 122 from rfl, show rng 97 26 = wvb from rfl] at r1
 have r2 := wdc 48 57 10 (by omega) (by omega) rfl
 rw [show ((48 : Nat) : Int) = 48 from rfl, show ((57 : Nat) : Int) = 57 from rfl, show rng 48 10 = wlb from rfl] at r2
 have r3 := wdc 33 126 94 (by omega) (by omega) rfl
 rw [show ((33 : Nat) : Int) = 33 from rfl, show ((126 : Nat) : Int) = 126 from rfl, show rng 33 94 = whd from rfl] at r3
 have j0 := wnc [wub, wvb] (by simp)
 rw [wfc, show ([wub, wvb] : List (BitVec 256)).length = 2 from rfl, show wub ||| wvb = wwb from rfl] at j0
 have j1 := wnc [wwb, wlb] (by simp)
 rw [wfc, show ([wwb, wlb] : List (BitVec 256)).length = 2 from rfl, show wwb ||| wlb = wjd from rfl] at j1
 have o0 := wug [32, 9] (by simp) (by simp)
 rw [show ([32, 9] : List Nat).length = 2 from rfl, show byC [32, 9] = [.int .u8 32, .int .u8 9] from rfl, show ofL [32, 9] = wge from rfl] at o0
 generalize wub = u at *
 generalize wvb = lw at *
 generalize wlb = dg at *
 generalize whd = gr at *
 generalize wwb = al at *
 generalize wjd = an at *
 generalize wge = bl at *
 refine wfb hc wcc (Nat.le_of_ble_eq_true rfl) (Nat.le_of_ble_eq_true rfl) ?_
 unfold wlc
 (repeat' (first | (simp -implicitDefEqProofs (maxSteps := 2000000) (disch := first | with_reducible assumption | omega | (simp only [zS, zA, seval, wac, wcd, wh, zD, s2l, s2n, s2s, s3l, s3n, s3s] <;> omega) | fail) only [zS, argl, insA, Go.Den.wm, ww, wbb, looks, wxb, wnb, idOf, riA, seval, kK, wsc, wne, wwe, wif, wh, *, zT, s2l, s2n, s2s, s3l, s3n, s3s]) | (with_reducible (first | apply z1 | apply z2 | apply z3 | apply z4) <;> intro hq <;> (try simp only [zH] at hq) <;> (try (exfalso; omega))) | (with_reducible apply z5; (case hl => (repeat (first | exact .nil | with_reducible apply z6 | with_reducible apply z7))); (case h => kernel_rfl))))
 all_goals rfl
theorem wczb (s : List UInt8) (n0 : decide (s = [97, 108, 112, 104, 97]) = false) (n1 : decide (s = [100, 105, 103, 105, 116]) = false) (n2 : decide (s = [97, 108, 110, 117, 109]) = false) (n3 : decide (s = [117, 112, 112, 101, 114]) = false) (n4 : decide (s = [108, 111, 119, 101, 114]) = false) (n5 : decide (s = [115, 112, 97, 99, 101]) = false) (n6 : decide (s = [98, 108, 97, 110, 107]) = false) (n7 : decide (s = [112, 117, 110, 99, 116]) = false) (n8 : decide (s = [112, 114, 105, 110, 116]) = false) (n9 : decide (s = [103, 114, 97, 112, 104]) = false) (n10 : decide (s = [99, 110, 116, 114, 108]) = true) : lim Try.prog cfg (.call 43 [str s]) (HP []) = some (.val (.tuple ⟨[sV (rng 0 32 ||| ofL [127]), .bool true]⟩), HP []) := by
 have r0 := wdc 65 90 26 (by omega) (by omega) rfl
 rw [show ((65 : Nat) : Int) = 65 from rfl, show ((90 : Nat) : Int) = 90 from rfl, show rng 65 26 = wub from rfl] at r0
 have r1 := wdc 97 122 26 (by omega) (by omega) rfl
 rw [show ((97 : Nat) : Int) = 97 from rfl, show ((122 : Nat) : Int) = 122 from rfl, show rng 97 26 = wvb from rfl] at r1
 have r2 := wdc 48 57 10 (by omega) (by omega) rfl
 rw [show ((48 : Nat) : Int) = 48 from rfl, show ((57 : Nat) : Int) = 57 from rfl, show rng 48 10 = wlb from rfl] at r2
 have r3 := wdc 33 126 94 (by omega) (by omega) rfl
 rw [show ((33 : Nat) : Int) = 33 from rfl, show ((126 : Nat) : Int) = 126 from rfl, show rng 33 94 = whd from rfl] at r3
 have r4 := wdc 0 31 32 (by omega) (by omega) rfl
 rw [show ((0 : Nat) : Int) = 0 from rfl, show ((31 : Nat) : Int) = 31 from rfl] at r4
 have j0 := wnc [wub, wvb] (by simp)
 rw [wfc, show ([wub, wvb] : List (BitVec 256)).length = 2 from rfl, show wub ||| wvb = wwb from rfl] at j0
 have j1 := wnc [wwb, wlb] (by simp)
 rw [wfc, show ([wwb, wlb] : List (BitVec 256)).length = 2 from rfl, show wwb ||| wlb = wjd from rfl] at j1
 have j2 := wnc [rng 0 32, ofL [127]] (by simp)
 rw [wfc, show ([rng 0 32, ofL [127]] : List (BitVec 256)).length = 2 from rfl] at j2
 have o0 := wug [32, 9] (by simp) (by simp)
 rw [show ([32, 9] : List Nat).length = 2 from rfl, show byC [32, 9] = [.int .u8 32, .int .u8 9] from rfl, show ofL [32, 9] = wge from rfl] at o0
 have o1 := wug [127] (by simp) (by simp)
 rw [show ([127] : List Nat).length = 1 from rfl, show byC [127] = [.int .u8 127] from rfl] at o1
 generalize wub = u at *
 generalize wvb = lw at *
 generalize wlb = dg at *
 generalize whd = gr at *
 generalize wwb = al at *
 generalize wjd = an at *
 generalize wge = bl at *
 generalize rng 0 32 = q1 at *
 generalize ofL [127] = q2 at *
 refine wfb hc wcc (Nat.le_of_ble_eq_true rfl) (Nat.le_of_ble_eq_true rfl) ?_
 unfold wlc
 (repeat' (first | (simp -implicitDefEqProofs (maxSteps := 2000000) (disch := first | with_reducible assumption | omega | (simp only [zS, zA, seval, wac, wcd, wh, zD, s2l, s2n, s2s, s3l, s3n, s3s] <;> omega) | fail) only [zS, argl, insA, Go.Den.wm, ww, wbb, looks, wxb, wnb, idOf, riA, seval, kK, wsc, wne, wwe, wif, wh, *, zT, s2l, s2n, s2s, s3l, s3n, s3s]) | (with_reducible (first | apply z1 | apply z2 | apply z3 | apply z4) <;> intro hq <;> (try simp only [zH] at hq) <;> (try (exfalso; omega))) | (with_reducible apply z5; (case hl => (repeat (first | exact .nil | with_reducible apply z6 | with_reducible apply z7))); (case h => kernel_rfl))))
 all_goals rfl
theorem wkob (s : List UInt8) (n0 : decide (s = [97, 108, 112, 104, 97]) = false) (n1 : decide (s = [100, 105, 103, 105, 116]) = false) (n2 : decide (s = [97, 108, 110, 117, 109]) = false) (n3 : decide (s = [117, 112, 112, 101, 114]) = false) (n4 : decide (s = [108, 111, 119, 101, 114]) = false) (n5 : decide (s = [115, 112, 97, 99, 101]) = false) (n6 : decide (s = [98, 108, 97, 110, 107]) = false) (n7 : decide (s = [112, 117, 110, 99, 116]) = false) (n8 : decide (s = [112, 114, 105, 110, 116]) = false) (n9 : decide (s = [103, 114, 97, 112, 104]) = false) (n10 : decide (s = [99, 110, 116, 114, 108]) = false) (n11 : decide (s = [120, 100, 105, 103, 105, 116]) = true) : lim Try.prog cfg (.call 43 [str s]) (HP []) = some (.val (.tuple ⟨[sV (joinL [wlb, rng 97 6, rng 65 6]), .bool true]⟩), HP []) := by
 have r0 := wdc 65 90 26 (by omega) (by omega) rfl
 rw [show ((65 : Nat) : Int) = 65 from rfl, show ((90 : Nat) : Int) = 90 from rfl, show rng 65 26 = wub from rfl] at r0
 have r1 := wdc 97 122 26 (by omega) (by omega) rfl
 rw [show ((97 : Nat) : Int) = 97 from rfl, show ((122 : Nat) : Int) = 122 from rfl, show rng 97 26 = wvb from rfl] at r1
 have r2 := wdc 48 57 10 (by omega) (by omega) rfl
 rw [show ((48 : Nat) : Int) = 48 from rfl, show ((57 : Nat) : Int) = 57 from rfl, show rng 48 10 = wlb from rfl] at r2
 have r3 := wdc 33 126 94 (by omega) (by omega) rfl
 rw [show ((33 : Nat) : Int) = 33 from rfl, show ((126 : Nat) : Int) = 126 from rfl, show rng 33 94 = whd from rfl] at r3
 have r4 := wdc 97 102 6 (by omega) (by omega) rfl
 rw [show ((97 : Nat) : Int) = 97 from rfl, show ((102 : Nat) : Int) = 102 from rfl] at r4
 have r5 := wdc 65 70 6 (by omega) (by omega) rfl
 rw [show ((65 : Nat) : Int) = 65 from rfl, show ((70 : Nat) : Int) = 70 from rfl] at r5
 have j0 := wnc [wub, wvb] (by simp)
 rw [wfc, show ([wub, wvb] : List (BitVec 256)).length = 2 from rfl, show wub ||| wvb = wwb from rfl] at j0
 have j1 := wnc [wwb, wlb] (by simp)
 rw [wfc, show ([wwb, wlb] : List (BitVec 256)).length = 2 from rfl, show wwb ||| wlb = wjd from rfl] at j1
 have j9 := wnc [wlb, rng 97 6, rng 65 6] (by simp)
 rw [show ([wlb, rng 97 6, rng 65 6] : List (BitVec 256)).length = 3 from rfl] at j9
 have o0 := wug [32, 9] (by simp) (by simp)
 rw [show ([32, 9] : List Nat).length = 2 from rfl, show byC [32, 9] = [.int .u8 32, .int .u8 9] from rfl, show ofL [32, 9] = wge from rfl] at o0
 generalize wub = u at *
 generalize wvb = lw at *
 generalize wlb = dg at *
 generalize whd = gr at *
 generalize wwb = al at *
 generalize wjd = an at *
 generalize wge = bl at *
 generalize rng 97 6 = q1 at *
 generalize rng 65 6 = q2 at *
 generalize hq3 : joinL [dg, q1, q2] = q3 at *
 clear hq3
 refine wfb hc wcc (Nat.le_of_ble_eq_true rfl) (Nat.le_of_ble_eq_true rfl) ?_
 unfold wlc
 (repeat' (first | (simp -implicitDefEqProofs (maxSteps := 2000000) (disch := first | with_reducible assumption | omega | (simp only [zS, zA, seval, wac, wcd, wh, zD, s2l, s2n, s2s, s3l, s3n, s3s] <;> omega) | fail) only [zS, argl, insA, Go.Den.wm, ww, wbb, looks, wxb, wnb, idOf, riA, seval, kK, wsc, wne, wwe, wif, wh, *, zT, s2l, s2n, s2s, s3l, s3n, s3s]) | (with_reducible (first | apply z1 | apply z2 | apply z3 | apply z4) <;> intro hq <;> (try simp only [zH] at hq) <;> (try (exfalso; omega))) | (with_reducible apply z5; (case hl => (repeat (first | exact .nil | with_reducible apply z6 | with_reducible apply z7))); (case h => kernel_rfl))))
 all_goals rfl
theorem cls_no (s : List UInt8) (n0 : decide (s = [97, 108, 112, 104, 97]) = false) (n1 : decide (s = [100, 105, 103, 105, 116]) = false) (n2 : decide (s = [97, 108, 110, 117, 109]) = false) (n3 : decide (s = [117, 112, 112, 101, 114]) = false) (n4 : decide (s = [108, 111, 119, 101, 114]) = false) (n5 : decide (s = [115, 112, 97, 99, 101]) = false) (n6 : decide (s = [98, 108, 97, 110, 107]) = false) (n7 : decide (s = [112, 117, 110, 99, 116]) = false) (n8 : decide (s = [112, 114, 105, 110, 116]) = false) (n9 : decide (s = [103, 114, 97, 112, 104]) = false) (n10 : decide (s = [99, 110, 116, 114, 108]) = false) (n11 : decide (s = [120, 100, 105, 103, 105, 116]) = false) : lim Try.prog cfg (.call 43 [str s]) (HP []) = some (.val (.tuple ⟨[sV (0#256), .bool false]⟩), HP []) := by
 have r0 := wdc 65 90 26 (by omega) (by omega) rfl
 rw [show ((65 : Nat) : Int) = 65 from rfl, show ((90 : Nat) : Int) = 90 from rfl, show rng 65 26 = wub from rfl] at r0
 have r1 := wdc 97 122 26 (by omega) (by omega) rfl
 rw [show ((97 : Nat) : Int) = 97 from rfl, show ((122 : Nat) : Int) = 122 from rfl, show rng 97 26 = wvb from rfl] at r1
 have r2 := wdc 48 57 10 (by omega) (by omega) rfl
 rw [show ((48 : Nat) : Int) = 48 from rfl, show ((57 : Nat) : Int) = 57 from rfl, show rng 48 10 = wlb from rfl] at r2
 have r3 := wdc 33 126 94 (by omega) (by omega) rfl
 rw [show ((33 : Nat) : Int) = 33 from rfl, show ((126 : Nat) : Int) = 126 from rfl, show rng 33 94 = whd from rfl] at r3
 have j0 := wnc [wub, wvb] (by simp)
 rw [wfc, show ([wub, wvb] : List (BitVec 256)).length = 2 from rfl, show wub ||| wvb = wwb from rfl] at j0
 have j1 := wnc [wwb, wlb] (by simp)
 rw [wfc, show ([wwb, wlb] : List (BitVec 256)).length = 2 from rfl, show wwb ||| wlb = wjd from rfl] at j1
 have o0 := wug [32, 9] (by simp) (by simp)
 rw [show ([32, 9] : List Nat).length = 2 from rfl, show byC [32, 9] = [.int .u8 32, .int .u8 9] from rfl, show ofL [32, 9] = wge from rfl] at o0
 generalize wub = u at *
 generalize wvb = lw at *
 generalize wlb = dg at *
 generalize whd = gr at *
 generalize wwb = al at *
 generalize wjd = an at *
 generalize wge = bl at *
 refine wfb hc wcc (Nat.le_of_ble_eq_true rfl) (Nat.le_of_ble_eq_true rfl) ?_
 unfold wlc
 (repeat' (first | (simp -implicitDefEqProofs (maxSteps := 2000000) (disch := first | with_reducible assumption | omega | (simp only [zS, zA, seval, wac, wcd, wh, zD, s2l, s2n, s2s, s3l, s3n, s3s] <;> omega) | fail) only [zS, argl, insA, Go.Den.wm, ww, wbb, looks, wxb, wnb, idOf, riA, seval, kK, wsc, wne, wwe, wif, wh, *, zT, s2l, s2n, s2s, s3l, s3n, s3s]) | (with_reducible (first | apply z1 | apply z2 | apply z3 | apply z4) <;> intro hq <;> (try simp only [zH] at hq) <;> (try (exfalso; omega))) | (with_reducible apply z5; (case hl => (repeat (first | exact .nil | with_reducible apply z6 | with_reducible apply z7))); (case h => kernel_rfl))))
 all_goals rfl
theorem wgz (s : List UInt8) : lim Try.prog cfg (.call 43 [str s]) (HP []) = some (.val (.tuple ⟨[sV (whr s).1, .bool (whr s).2]⟩), HP []) := by
 by_cases n0 : s = ([97, 108, 112, 104, 97] : List UInt8)
 ·have h := wsyb s (decide_eq_true n0)
  rw [h]; subst n0; rfl
 by_cases n1 : s = ([100, 105, 103, 105, 116] : List UInt8)
 ·have h := wtyb s (decide_eq_false n0) (decide_eq_true n1)
  rw [h]; subst n1; rfl
 by_cases n2 : s = ([97, 108, 110, 117, 109] : List UInt8)
 ·have h := wuyb s (decide_eq_false n0) (decide_eq_false n1) (decide_eq_true n2)
  rw [h]; subst n2; rfl
 by_cases n3 : s = ([117, 112, 112, 101, 114] : List UInt8)
 ·have h := wvyb s (decide_eq_false n0) (decide_eq_false n1) (decide_eq_false n2) (decide_eq_true n3)
  rw [h]; subst n3; rfl
 by_cases n4 : s = ([108, 111, 119, 101, 114] : List UInt8)
 ·have h := wwyb s (decide_eq_false n0) (decide_eq_false n1) (decide_eq_false n2) (decide_eq_false n3) (decide_eq_true n4)
  rw [h]; subst n4; rfl
 by_cases n5 : s = ([115, 112, 97, 99, 101] : List UInt8)
 ·have h := wxyb s (decide_eq_false n0) (decide_eq_false n1) (decide_eq_false n2) (decide_eq_false n3) (decide_eq_false n4) (decide_eq_true n5)
  rw [h]; subst n5; rfl
 by_cases n6 : s = ([98, 108, 97, 110, 107] : List UInt8)
 ·have h := wyyb s (decide_eq_false n0) (decide_eq_false n1) (decide_eq_false n2) (decide_eq_false n3) (decide_eq_false n4) (decide_eq_false n5) (decide_eq_true n6)
  rw [h]; subst n6; rfl
 by_cases n7 : s = ([112, 117, 110, 99, 116] : List UInt8)
 ·have h := wzyb s (decide_eq_false n0) (decide_eq_false n1) (decide_eq_false n2) (decide_eq_false n3) (decide_eq_false n4) (decide_eq_false n5) (decide_eq_false n6) (decide_eq_true n7)
  rw [h]; subst n7; rfl
 by_cases n8 : s = ([112, 114, 105, 110, 116] : List UInt8)
 ·have h := wazb s (decide_eq_false n0) (decide_eq_false n1) (decide_eq_false n2) (decide_eq_false n3) (decide_eq_false n4) (decide_eq_false n5) (decide_eq_false n6) (decide_eq_false n7) (decide_eq_true n8)
  rw [h]; subst n8; rfl
 by_cases n9 : s = ([103, 114, 97, 112, 104] : List UInt8)
 ·have h := wbzb s (decide_eq_false n0) (decide_eq_false n1) (decide_eq_false n2) (decide_eq_false n3) (decide_eq_false n4) (decide_eq_false n5) (decide_eq_false n6) (decide_eq_false n7) (decide_eq_false n8) (decide_eq_true n9)
  rw [h]; subst n9; rfl
 by_cases n10 : s = ([99, 110, 116, 114, 108] : List UInt8)
 ·have h := wczb s (decide_eq_false n0) (decide_eq_false n1) (decide_eq_false n2) (decide_eq_false n3) (decide_eq_false n4) (decide_eq_false n5) (decide_eq_false n6) (decide_eq_false n7) (decide_eq_false n8) (decide_eq_false n9) (decide_eq_true n10)
  rw [h]; subst n10; rfl
 by_cases n11 : s = ([120, 100, 105, 103, 105, 116] : List UInt8)
 ·have h := wkob s (decide_eq_false n0) (decide_eq_false n1) (decide_eq_false n2) (decide_eq_false n3) (decide_eq_false n4) (decide_eq_false n5) (decide_eq_false n6) (decide_eq_false n7) (decide_eq_false n8) (decide_eq_false n9) (decide_eq_false n10) (decide_eq_true n11)
  rw [h]; subst n11; rfl
 have hr : whr s = (0#256, false) := by
  simp [whr, wsxb, Ne.symm n0, Ne.symm n1, Ne.symm n2, Ne.symm n3, Ne.symm n4, Ne.symm n5, Ne.symm n6, Ne.symm n7, Ne.symm n8, Ne.symm n9, Ne.symm n10, Ne.symm n11]
 rw [cls_no s (decide_eq_false n0) (decide_eq_false n1) (decide_eq_false n2) (decide_eq_false n3) (decide_eq_false n4) (decide_eq_false n5) (decide_eq_false n6) (decide_eq_false n7) (decide_eq_false n8) (decide_eq_false n9) (decide_eq_false n10) (decide_eq_false n11), hr]
end
end Go.Proofs.Ytjihbfdbgamcdaa
namespace Go.Den
noncomputable section
def cat : List Nat → Nat
 | [] => 0
 | b :: r => b + 256 * cat r
theorem wfs {b m : Nat} (hb : b < 256) (hm : m < 256) (R M : Nat) : (b + 256 * R) &&& (m + 256 * M) = (b &&& m) + 256 * (R &&& M) := by
 have hbm : b &&& m < 2 ^ 8 := Nat.and_lt_two_pow _ hm
 apply Nat.eq_of_testBit_eq
 intro i
 have e1 := Nat.testBit_two_pow_mul_add R (i := 8) (b := b) hb i
 have e2 := Nat.testBit_two_pow_mul_add M (i := 8) (b := m) hm i
 have e3 := Nat.testBit_two_pow_mul_add (R &&& M) (i := 8) (b := b &&& m) hbm i
 rw [show 2 ^ 8 * R + b = b + 256 * R by omega] at e1
 rw [show 2 ^ 8 * M + m = m + 256 * M by omega] at e2
 rw [show 2 ^ 8 * (R &&& M) + (b &&& m) = (b &&& m) + 256 * (R &&& M) by omega] at e3
 rw [Nat.testBit_and, e1, e2, e3]
 by_cases hi : i < 8
 ·simp [hi, Nat.testBit_and]
 ·simp [hi, Nat.testBit_and]
def rep (m : Nat) : Nat → Nat
 | 0 => 0
 | n + 1 => m + 256 * rep m n
theorem wdzb {m : Nat} (hm : m < 256) : ∀ (l : List Nat), (∀ b ∈ l, b < 256) → cat l &&& rep m l.length = cat (l.map (· &&& m)) := by
 intro l
 induction l with
 | nil => intro _; simp [cat, rep]
 | cons b r ih =>
  intro h
  show (b + 256 * cat r) &&& (m + 256 * rep m r.length) = _
  rw [wfs (h b (by simp)) hm, ih fun x hx => h x (List.mem_cons_of_mem _ hx)]
  rfl
theorem half_dec : ∀ b, b < 256 → ∀ t, t < 2 → ((b / 2 + 128 * t) &&& 85) = (b / 2 &&& 85) := by decide +kernel
theorem wchb : ∀ b, b < 256 → ∀ t, t < 4 → ((b / 4 + 64 * t) &&& 51) = (b / 4 &&& 51) := by decide +kernel
theorem cat_half : ∀ (l : List Nat), (∀ b ∈ l, b < 256) → (cat l / 2) &&& rep 85 l.length = cat (l.map fun b => b / 2 &&& 85) := by
 intro l
 induction l with
 | nil => intro _; rfl
 | cons b r ih =>
  intro h
  have hb := h b (by simp)
  show ((b + 256 * cat r) / 2) &&& (85 + 256 * rep 85 r.length) = _
  have e : (b + 256 * cat r) / 2 = (b / 2 + 128 * (cat r % 2)) + 256 * (cat r / 2) := by omega
  rw [e, wfs (by omega) (by omega), half_dec b hb _ (by omega), ih fun x hx => h x (List.mem_cons_of_mem _ hx)]
  rfl
theorem wdhb : ∀ (l : List Nat), (∀ b ∈ l, b < 256) → (cat l / 4) &&& rep 51 l.length = cat (l.map fun b => b / 4 &&& 51) := by
 intro l
 induction l with
 | nil => intro _; rfl
 | cons b r ih =>
  intro h
  have hb := h b (by simp)
  show ((b + 256 * cat r) / 4) &&& (51 + 256 * rep 51 r.length) = _
  have e : (b + 256 * cat r) / 4 = (b / 4 + 64 * (cat r % 4)) + 256 * (cat r / 4) := by omega
  rw [e, wfs (by omega) (by omega), wchb b hb _ (by omega), ih fun x hx => h x (List.mem_cons_of_mem _ hx)]
  rfl
theorem low_dec : ∀ a, a < 256 → a &&& 15 = a % 16 := by decide +kernel
theorem cat_nib : ∀ (l : List Nat), (∀ b ∈ l, b % 16 ≤ 4 ∧ b / 16 ≤ 4) → (cat l / 16 + cat l) &&& rep 15 l.length = cat (l.map fun b => b % 16 + b / 16) := by
 intro l
 induction l with
 | nil => intro _; rfl
 | cons b r ih =>
  intro h
  have hb := h b (by simp)
  have hr : cat r % 16 ≤ 4 := by
   cases r with
   | nil => show 0 % 16 ≤ 4; omega
   | cons c s =>
    have := (h c (by simp)).1
    show (c + 256 * cat s) % 16 ≤ 4
    omega
  show ((b + 256 * cat r) / 16 + (b + 256 * cat r)) &&& (15 + 256 * rep 15 r.length) = _
  have e : (b + 256 * cat r) / 16 + (b + 256 * cat r) = (b / 16 + b + 16 * (cat r % 16)) + 256 * (cat r / 16 + cat r) := by omega
  have hlt : b / 16 + b + 16 * (cat r % 16) < 256 := by omega
  rw [e, wfs hlt (by omega), low_dec _ hlt, ih fun x hx => h x (List.mem_cons_of_mem _ hx)]
  show _ = (b % 16 + b / 16) + 256 * cat _
  omega
theorem wezb (f g : Nat → Nat) (l : List Nat) : cat (l.map f) + cat (l.map g) = cat (l.map fun b => f b + g b) := by
 induction l with
 | nil => rfl
 | cons b r ih =>
  show (f b + 256 * cat (r.map f)) + (g b + 256 * cat (r.map g)) = (f b + g b) + 256 * cat _
  rw [← ih]
  omega
def s1 (b : Nat) : Nat := (b / 2 &&& 85) + (b &&& 85)
def s2 (b : Nat) : Nat := (b / 4 &&& 51) + (b &&& 51)
def s3 (b : Nat) : Nat := b % 16 + b / 16
def popc (b : Nat) : Nat := (List.range 8).countP b.testBit
theorem s1_lt : ∀ b, b < 256 → s1 b < 256 := by decide +kernel
theorem s2_lt : ∀ b, b < 256 → s2 (s1 b) % 16 ≤ 4 ∧ s2 (s1 b) / 16 ≤ 4 ∧ s2 (s1 b) < 256 := by decide +kernel
theorem s3_pop : ∀ b, b < 256 → s3 (s2 (s1 b)) = popc b := by decide +kernel
theorem popc_le (b : Nat) : popc b ≤ 8 := by
 have := List.countP_le_length (p := b.testBit) (l := List.range 8)
 simpa [popc] using this
def wze (x : Nat) : List Nat := [x % 256, x / 256 % 256, x / 65536 % 256, x / 16777216 % 256, x / 4294967296 % 256, x / 1099511627776 % 256, x / 281474976710656 % 256, x / 72057594037927936 % 256]
theorem wlob {x : Nat} (h : x < 18446744073709551616) : cat (wze x) = x := by
 simp only [wze, cat]
 omega
theorem wfzb (x : Nat) : ∀ b ∈ wze x, b < 256 := by
 intro b hb
 simp only [wze, List.mem_cons, List.not_mem_nil, or_false] at hb
 omega
theorem rep8 : rep 85 8 = 6148914691236517205 ∧ rep 51 8 = 3689348814741910323 ∧ rep 15 8 = 1085102592571150095 := ⟨rfl, rfl, rfl⟩
theorem divq {x lo hi k : Nat} (h : x = lo + k * hi) (hl : lo < k) : x / k = hi := by
 rw [h, Nat.add_mul_div_left _ _ (by omega), Nat.div_eq_of_lt hl, Nat.zero_add]
theorem fin128 {A B Y Z : Nat} (h : A + B < 128) : (A + 256 * Y + (B + 256 * Z)) % 128 = A + B := by omega
theorem fold8 (C : BitVec 64) : ∀ (L : List Nat), C.toNat = cat L → (∀ b ∈ L, b ≤ 8) → L.length = 8 → (((C + (C >>> 8)) + ((C + (C >>> 8)) >>> 16)) + (((C + (C >>> 8)) + ((C + (C >>> 8)) >>> 16)) >>> 32)).toNat % 128 = L.sum := by
 intro L e hle hn
 match L, hn with
 | [a, b, c, d, e', f, g, h], _ =>
  simp only [List.mem_cons, List.not_mem_nil, or_false, forall_eq_or_imp, forall_eq] at hle
  simp only [cat] at e
  simp only [List.sum_cons, List.sum_nil]
  have d1 : (C >>> 8).toNat = C.toNat / 256 := by rw [BitVec.toNat_ushiftRight, Nat.shiftRight_eq_div_pow]
  have d2 : (C + (C >>> 8)).toNat = C.toNat + C.toNat / 256 := by
   rw [BitVec.toNat_add, d1, Nat.mod_eq_of_lt (by omega)]
  generalize C + (C >>> 8) = D at d2
  have d3 : (D >>> 16).toNat = D.toNat / 65536 := by rw [BitVec.toNat_ushiftRight, Nat.shiftRight_eq_div_pow]
  have d4 : (D + (D >>> 16)).toNat = D.toNat + D.toNat / 65536 := by
   rw [BitVec.toNat_add, d3, Nat.mod_eq_of_lt (by omega)]
  generalize D + (D >>> 16) = E at d4
  have d5 : (E >>> 32).toNat = E.toNat / 4294967296 := by rw [BitVec.toNat_ushiftRight, Nat.shiftRight_eq_div_pow]
  have d6 : (E + (E >>> 32)).toNat = E.toNat + E.toNat / 4294967296 := by
   rw [BitVec.toNat_add, d5, Nat.mod_eq_of_lt (by omega)]
  rw [d6]
  have q1 : C.toNat / 256 = b + 256 * (c + 256 * (d + 256 * (e' + 256 * (f + 256 * (g + 256 * h))))) := divq (lo := a) (by rw [e]; simp only [Nat.mul_zero, Nat.add_zero]) (by omega)
  have w1 : D.toNat = (a + b) + 256 * ((b + c) + 256 * ((c + d) + 256 * ((d + e') + 256 * ((e' + f) + 256 * ((f + g) + 256 * ((g + h) + 256 * h)))))) := by rw [d2, q1, e]; simp only [Nat.mul_add]; omega
  clear d1 d2 q1 e d3 d5 d6
  have q2 : D.toNat / 65536 = (c + d) + 256 * ((d + e') + 256 * ((e' + f) + 256 * ((f + g) + 256 * ((g + h) + 256 * h)))) := divq (lo := (a + b) + 256 * (b + c)) (by rw [w1]; simp only [Nat.mul_add]; omega) (by omega)
  have w2 : E.toNat = (a + b + c + d) + 256 * ((b + c + d + e') + 256 * ((c + d + e' + f) + 256 * ((d + e' + f + g) + 256 * ((e' + f + g + h) + 256 * ((f + g + h) + 256 * ((g + h) + 256 * h)))))) := by rw [d4, q2, w1]; simp only [Nat.mul_add]; omega
  clear d4 q2 w1
  have q3 : E.toNat / 4294967296 = (e' + f + g + h) + 256 * ((f + g + h) + 256 * ((g + h) + 256 * h)) := divq (lo := (a + b + c + d) + 256 * ((b + c + d + e') + 256 * ((c + d + e' + f) + 256 * (d + e' + f + g)))) (by rw [w2]; clear w2; simp only [Nat.mul_add]; omega) (by clear w2; omega)
  rw [q3, w2]
  clear q3 w2
  rw [fin128 (by omega)]
  omega
theorem swar_eq (v : BitVec 64) : swar v = ((wze v.toNat).map popc).sum := by
 have hv := v.isLt
 have hl := wfzb v.toNat
 have hlen : (wze v.toNat).length = 8 := rfl
 have hx0 : cat (wze v.toNat) = v.toNat := wlob (by omega)
 have e1 : (((v >>> 1) &&& BitVec.ofInt 64 6148914691236517205) + (v &&& BitVec.ofInt 64 6148914691236517205)).toNat = cat ((wze v.toNat).map s1) := by
  have h1 : ((v >>> 1) &&& BitVec.ofInt 64 6148914691236517205).toNat = cat ((wze v.toNat).map fun b => b / 2 &&& 85) := by
   rw [BitVec.toNat_and, BitVec.toNat_ushiftRight, Nat.shiftRight_eq_div_pow, ← cat_half _ hl, hlen, rep8.1, hx0]
   rfl
  have h2 : (v &&& BitVec.ofInt 64 6148914691236517205).toNat = cat ((wze v.toNat).map fun b => b &&& 85) := by
   rw [BitVec.toNat_and, ← wdzb (by omega) _ hl, hlen, rep8.1, hx0]
   rfl
  have b1 : ((v >>> 1) &&& BitVec.ofInt 64 6148914691236517205).toNat ≤ 6148914691236517205 := by rw [BitVec.toNat_and]; exact Nat.and_le_right
  have b2 : (v &&& BitVec.ofInt 64 6148914691236517205).toNat ≤ 6148914691236517205 := by rw [BitVec.toNat_and]; exact Nat.and_le_right
  rw [BitVec.toNat_add, Nat.mod_eq_of_lt (by omega), h1, h2, wezb]
  rfl
 generalize hA : ((v >>> 1) &&& BitVec.ofInt 64 6148914691236517205) + (v &&& BitVec.ofInt 64 6148914691236517205) = A at e1
 have hl1 : ∀ b ∈ (wze v.toNat).map s1, b < 256 := by
  intro b hb
  obtain ⟨c, hc, rfl⟩ := List.mem_map.1 hb
  exact s1_lt c (hl c hc)
 have hlen1 : ((wze v.toNat).map s1).length = 8 := rfl
 have e2 : (((A >>> 2) &&& BitVec.ofInt 64 3689348814741910323) + (A &&& BitVec.ofInt 64 3689348814741910323)).toNat = cat (((wze v.toNat).map s1).map s2) := by
  have h1 : ((A >>> 2) &&& BitVec.ofInt 64 3689348814741910323).toNat = cat (((wze v.toNat).map s1).map fun b => b / 4 &&& 51) := by
   rw [BitVec.toNat_and, BitVec.toNat_ushiftRight, Nat.shiftRight_eq_div_pow, ← wdhb _ hl1, hlen1, rep8.2.1, e1]
   rfl
  have h2 : (A &&& BitVec.ofInt 64 3689348814741910323).toNat = cat (((wze v.toNat).map s1).map fun b => b &&& 51) := by
   rw [BitVec.toNat_and, ← wdzb (by omega) _ hl1, hlen1, rep8.2.1, e1]
   rfl
  have b1 : ((A >>> 2) &&& BitVec.ofInt 64 3689348814741910323).toNat ≤ 3689348814741910323 := by rw [BitVec.toNat_and]; exact Nat.and_le_right
  have b2 : (A &&& BitVec.ofInt 64 3689348814741910323).toNat ≤ 3689348814741910323 := by rw [BitVec.toNat_and]; exact Nat.and_le_right
  rw [BitVec.toNat_add, Nat.mod_eq_of_lt (by omega), h1, h2, wezb]
  rfl
 generalize hB : ((A >>> 2) &&& BitVec.ofInt 64 3689348814741910323) + (A &&& BitVec.ofInt 64 3689348814741910323) = B at e2
 have hl2 : ∀ b ∈ ((wze v.toNat).map s1).map s2, b % 16 ≤ 4 ∧ b / 16 ≤ 4 := by
  intro b hb
  obtain ⟨c, hc, rfl⟩ := List.mem_map.1 hb
  obtain ⟨d, hd, rfl⟩ := List.mem_map.1 hc
  exact ⟨(s2_lt d (hl d hd)).1, (s2_lt d (hl d hd)).2.1⟩
 have hlen2 : (((wze v.toNat).map s1).map s2).length = 8 := rfl
 have hBt : B.toNat ≤ 4919131752989213764 := by
  rw [e2]
  have hq : ∀ b ∈ ((wze v.toNat).map s1).map s2, b ≤ 68 := by intro b hb; have := hl2 b hb; omega
  have key : ∀ (l : List Nat), (∀ b ∈ l, b ≤ 68) → l.length = 8 → cat l ≤ 4919131752989213764 := by
   intro l hl hn
   match l, hn with
   | [a, b, c, d, e, f, g, h], _ =>
    simp only [List.mem_cons, List.not_mem_nil, or_false, forall_eq_or_imp, forall_eq] at hl
    simp only [cat]
    omega
  exact key _ hq hlen2
 have e3 : (((B >>> 4) + B) &&& BitVec.ofInt 64 1085102592571150095).toNat = cat ((((wze v.toNat).map s1).map s2).map s3) := by
  rw [BitVec.toNat_and, BitVec.toNat_add, BitVec.toNat_ushiftRight, Nat.shiftRight_eq_div_pow, Nat.mod_eq_of_lt (by omega), e2]
  rw [show (BitVec.ofInt 64 1085102592571150095).toNat = rep 15 8 from rfl]
  exact cat_nib _ hl2
 generalize hC : (((B >>> 4) + B) &&& BitVec.ofInt 64 1085102592571150095) = C at e3
 have e4 : (((wze v.toNat).map s1).map s2).map s3 = (wze v.toNat).map popc := by
  rw [List.map_map, List.map_map]
  exact List.map_congr_left fun b hb => s3_pop b (hl b hb)
 rw [e4] at e3
 have hs : swar v = (((C + (C >>> 8)) + ((C + (C >>> 8)) >>> 16)) + (((C + (C >>> 8)) + ((C + (C >>> 8)) >>> 16)) >>> 32)).toNat % 128 := by
  subst hC hB hA
  rfl
 rw [hs]
 have hle : ∀ b ∈ (wze v.toNat).map popc, b ≤ 8 := by
  intro b hb
  obtain ⟨c, _, rfl⟩ := List.mem_map.1 hb
  exact popc_le c
 have hlen3 : ((wze v.toNat).map popc).length = 8 := rfl
 generalize (wze v.toNat).map popc = L at e3 hle hlen3 ⊢
 exact fold8 C L e3 hle hlen3
theorem wmob (x : Nat) (k : Nat) (h : x < 2 ^ (8 * k)) : (List.range (8 * k)).countP x.testBit = ((List.range k).map fun i => popc (x / 256 ^ i % 256)).sum := by
 clear h
 induction k with
 | zero => rfl
 | succ k ih =>
  rw [show 8 * (k + 1) = 8 * k + 8 by omega, List.range_add, List.countP_append, ih, List.range_succ (n := k), List.map_append, List.sum_append]
  congr 1
  rw [List.countP_map]
  simp only [List.map_cons, List.map_nil, List.sum_cons, List.sum_nil, Nat.add_zero, popc]
  refine List.countP_congr fun i hi => ?_
  have hi8 : i < 8 := List.mem_range.1 hi
  have e : (256 : Nat) ^ k = 2 ^ (8 * k) := by rw [Nat.pow_mul]
  have : (x / 256 ^ k % 256).testBit i = x.testBit (8 * k + i) := by
   rw [e, show (256 : Nat) = 2 ^ 8 from rfl, Nat.testBit_mod_two_pow, ← Nat.shiftRight_eq_div_pow, Nat.testBit_shiftRight]
   simp [hi8]
  simp only [Function.comp_apply]
  rw [this]
theorem wnob (v : BitVec 64) : swar v = (List.range 64).countP v.toNat.testBit := by
 rw [swar_eq, wmob v.toNat 8 v.isLt]
 simp only [wze, List.map_cons, List.map_nil, show List.range 8 = [0, 1, 2, 3, 4, 5, 6, 7] from rfl, Nat.pow_zero, Nat.div_one]
end
end Go.Den
namespace Go.Den
noncomputable section
open Go.ChangeShapes Go.WideShapes Go.RowKit
variable {P : Program} {cfg : Cfg} {H : Type} {enc : TypeId × Value → H}
theorem known_ev (wog : weg P cfg.glob cfg.know) (hm : P.follows .mixedOrders = true) {f : FuncId} {a : List Value} {v : Value} (h : Ev P cfg (.call f a) AH0 (.val v, AH0)) (ha : wcb a = true) (hv : wuc v = true) : wqk P cfg.glob f a v := by
 obtain ⟨n, h⟩ := h
 exact wdr wog hm (h n (Nat.le_refl n)) ha hv
def renW (w : World) : Ren := ⟨fun _ _ => none, fun b i => w.cell? ⟨b, i, none⟩⟩
theorem wgzb (wog : weg P cfg.glob cfg.know) (hm : P.follows .mixedOrders = true) (hg : cfg.glob = fun _ => none) {f : FuncId} {a : List Value} (h : Ev P cfg (.call f a) AH0 (.val (.bool true), AH0)) (ha : wcb a = true) (w : World) (args' : Array Value) (hA : VRL (renW w) a args'.toList) :
  Calls P f args' w fun e w' => e = .returned (.bool true) ∧ w.heap.size ≤ w'.heap.size ∧ (∀ b : Nat, b < w.heap.size → w'.heap[b]? = w.heap[b]?) ∧ w'.os = w.os ∧ w'.output = w.output := by
 refine (known_ev wog hm h ha rfl (renW w) w args' (fun _ _ _ h => h) (by rw [hg]; exact gok_none _) hA).mono ?_
 rintro e w' ⟨ρ', v', rfl, h1, _, _, _, _, h5, h2, h3, h4⟩
 rw [h1.bool_inv]
 exact ⟨rfl, h5, h2, h3, h4⟩
theorem same_at {W W' : World} (hb : ∀ b : Nat, b < W.heap.size → W'.heap[b]? = W.heap[b]?) {p : MemPlace} (hp : p.block < W.heap.size) : W.sameAt W' p := by
 cases p with
 | cell b o => exact World.cell?_of_block (w := W) (hb b hp)
 | map b => exact hb b hp
theorem whz (hl : laidOutB P = true) {W W' : World} (hb : ∀ b : Nat, b < W.heap.size → W'.heap[b]? = W.heap[b]?) {sp : Nat → Bool} : ∀ (ts : List TypeId) (vs : List Value) (ds : List (DataW H)) (ps : List MemPlace), (ts.all fun t => P.readableRec t && decide (t < P.types.size)) = true →
  DataW.TrodAll enc P W 0 (fun _ => true) true ts vs ds ps → (∀ p ∈ ps, p.block < W.heap.size) → (∀ p ∈ ps, sp p.block = true) → DataW.TrodAll enc P W' 0 sp true ts vs ds ps := by
 intro ts
 induction ts with
 | nil =>
  intro vs ds ps _ h _ _
  obtain ⟨rfl, rfl, rfl⟩ := trodAll_nil h
  exact trodAll_mk0
 | cons t ts ih =>
  intro vs ds ps ht h hlt hs
  obtain ⟨v, vs', d, ds', p, q, rfl, rfl, rfl, h0, h1⟩ := trodAll_cons h
  simp only [List.all_cons, Bool.and_eq_true, decide_eq_true_eq] at ht
  exact trodAll_cons_mk (WideElems.Trod_stays hl ht.1.1 ht.1.2 h0 (fun x hx => same_at hb (hlt x (List.mem_append_left _ hx))) (fun x hx => hs x (List.mem_append_left _ hx)))
   (ih vs' ds' q (by simpa using ht.2) h1 (fun x hx => hlt x (List.mem_append_right _ hx)) (fun x hx => hs x (List.mem_append_right _ hx)))
theorem law_post (hl : laidOutB P = true) {f : Func} {s : ChangeSpec} {apart fresh handsOn : Bool} {W W' : World} {args : Array Value} {ds gs : List (DataW H)} {before : List MemPlace}
  (hW : DataW.Whole enc P f.params.toList s.vars apart W args.toList ds gs before) (hvars : s.vars = []) (hbool : ∃ t, f.resultTypes = #[t] ∧ P.underlying t = some .bool)
  (hts : (f.params.toList.all fun t => P.readableRec t && decide (t < P.types.size)) = true)
  (hfn : s.fn H (ds ++ gs) = { results := [.lit (.bool true)], args := ds })
  (hs : ∀ b : Nat, b < W.heap.size → W'.heap[b]? = W.heap[b]?) (ho : W'.os = W.os) (hp : W'.output = W.output) : s.post enc P f apart fresh handsOn false W args (.bool true) W' := by
 have hW' := hW
 obtain ⟨p, q, hA, hV, rfl, hfz, hnd⟩ := hW
 rw [hvars] at hV
 obtain ⟨rfl, rfl⟩ := trodVars_none hV
 obtain ⟨t, ht, hu⟩ := hbool
 refine whrb (pa := p) (pv := []) hW' (fun b sp hd => ?_) (fun sp hsp => ?_) (fun sp _ => ?_) rfl (kept_of hs ho hp)
 ·rw [ht, hfn]
  exact trodAll_cons_mk (shut_bool hu _) trodAll_mk0
 ·rw [hfn]
  exact whz hl hs _ _ _ _ hts hA (fun x hx => hW'.lt x (List.mem_append_left _ hx)) (fun x hx => hsp x (List.mem_append_left _ hx))
 ·rw [hfn, hvars]
  exact rfl
theorem wiz {n : Int} (h : (Lit.int .u64 n).wf = true) : n = (((BitVec.ofInt 64 n).toNat : Nat) : Int) := by
 simp only [Lit.wf, Bool.and_eq_true, decide_eq_true_eq] at h
 have h1 : (0 : Int) ≤ n := h.1
 have h2 : n ≤ 18446744073709551615 := h.2
 rw [BitVec.toNat_ofInt]
 omega
theorem wtcb {a0 a1 a2 a3 : Int} (w0 : (Lit.int .u64 a0).wf = true) (w1 : (Lit.int .u64 a1).wf = true) (w2 : (Lit.int .u64 a2).wf = true) (w3 : (Lit.int .u64 a3).wf = true) :
  ∃ s : BitVec 256, Value.agg ⟨[.int .u64 a0, .int .u64 a1, .int .u64 a2, .int .u64 a3]⟩ = setV s := by
 refine ⟨ofWd fun i => match i with | 0 => BitVec.ofInt 64 a0 | 1 => BitVec.ofInt 64 a1 | 2 => BitVec.ofInt 64 a2 | _ => BitVec.ofInt 64 a3, ?_⟩
 unfold setV setC wdV
 rw [wdo _ (by omega), wdo _ (by omega), wdo _ (by omega), wdo _ (by omega)]
 simp only []
 rw [← wiz w0, ← wiz w1, ← wiz w2, ← wiz w3]
theorem open_set {k e : TypeId} (A : Go.WideMaps.ArrKey P k e 4) (he : P.underlying e = some (.int .u64)) {W : World} {base : Nat} {sp : Nat → Bool} {held : Bool} {r : Reach} {b0 : Nat} {v : Value} {d : DataW H} {ps : List MemPlace} (hval : Value.okWide P W r b0 k v) (hd : DataW.Trod enc P W base sp held k v d ps) :
  ∃ s : BitVec 256, v = setV s := by
 obtain ⟨⟨l⟩, rfl, hn⟩ : ∃ xs : Array Value, v = .agg xs ∧ xs.size = 4 := by
  simp only [Value.okWide, A.hu] at hval
  obtain ⟨cs, h1, h2, _⟩ := hval
  exact ⟨cs, h1, by rw [h2, A.size]⟩
 match l, hn with
 | [v0, v1, v2, v3], _ =>
  obtain ⟨fuel, hf⟩ := hd
  cases fuel with
  | zero => simp [DataW.trod] at hf
  | succ n =>
   rw [DataW.trod_step] at hf
   unfold DataW.trodStep at hf
   simp only [A.hu, Value.cells] at hf
   rw [if_pos (by rw [A.size]; rfl)] at hf
   simp only [Option.map_eq_some_iff] at hf
   obtain ⟨xs, hx, _⟩ := hf
   rw [show List.range 4 = [0, 1, 2, 3] from rfl, List.mapM_cons, List.mapM_cons, List.mapM_cons, List.mapM_cons, List.mapM_nil] at hx
   simp only [bind, Option.bind_eq_some_iff, pure, Option.some.injEq, A.one] at hx
   obtain ⟨y0, h0, _, ⟨y1, h1, _, ⟨y2, h2, _, ⟨y3, h3, _, rfl, rfl⟩, rfl⟩, rfl⟩, rfl⟩ := hx
   obtain ⟨a0, e0, _, w0⟩ := DataW.trod_int he h0
   obtain ⟨a1, e1, _, w1⟩ := DataW.trod_int he h1
   obtain ⟨a2, e2, _, w2⟩ := DataW.trod_int he h2
   obtain ⟨a3, e3, _, w3⟩ := DataW.trod_int he h3
   simp at e0 e1 e2 e3
   subst e0 e1 e2 e3
   exact wtcb w0 w1 w2 w3
theorem byte_of {n : Int} (h : (Lit.int .u8 n).wf = true) : ∃ x : Nat, n = (x : Int) ∧ x < 256 := by
 simp only [Lit.wf, Bool.and_eq_true, decide_eq_true_eq] at h
 have h1 : (0 : Int) ≤ n := h.1
 have h2 : n ≤ 255 := h.2
 exact ⟨n.toNat, by omega, by omega⟩
end
end Go.Den
namespace Go.Den
noncomputable section
open Go.ChangeShapes Go.WideShapes Go.RowKit
variable {P : Program} {H : Type} {enc : TypeId × Value → H}
end
end Go.Den
namespace Go.Den
noncomputable section
open Go.ChangeShapes Go.WideShapes Go.RowKit
theorem nats_of : ∀ l : List Int, (∀ n ∈ l, (Lit.int .u8 n).wf = true) → ∃ b : List Nat, l = b.map (fun x : Nat => (x : Int)) ∧ ∀ x ∈ b, x < 256 := by
 intro l
 induction l with
 | nil => intro _; exact ⟨[], rfl, by simp⟩
 | cons a l ih =>
  intro h
  obtain ⟨x, rfl, hx⟩ := byte_of (h a (by simp))
  obtain ⟨b, rfl, hb⟩ := ih fun n hn => h n (List.mem_cons_of_mem _ hn)
  exact ⟨x :: b, rfl, by simpa using ⟨hx, hb⟩⟩
theorem woob {P : Program} {H : Type} {enc : TypeId × Value → H} {W : World} {t e : TypeId} (ht : P.underlying t = some (.slice e)) (he : P.underlying e = some (.int .u8)) (hc : P.cellsOf e = 1) {r : Reach} {b0 base : Nat} {sp : Nat → Bool} {held : Bool} {v : Value} {d : DataW H} {ps : List MemPlace}
  (hval : Value.okWide P W r b0 t v) (hd : DataW.Trod enc P W base sp held t v d ps) : ∃ l : List Nat, (∀ x ∈ l, x < 256) ∧ VR (renW W) (FL l.length (l.map fun x => Value.int .u8 (x : Nat))) v := by
 obtain ⟨a, len, cap, rfl⟩ := okWide_slice ht hval
 obtain ⟨fuel, hf⟩ := hd
 simp only [Value.okWide, ht] at hval
 rcases open_ints ht he hc hf with ⟨hcs, _⟩ | ⟨a, len, cap, zs, hcs, _, hl, hm, hz, _, hcell, hwf⟩
 ·cases hcs
  exact ⟨[], by simp, .listNo⟩
 ·cases hcs
  have hsp : a.spot = none := by
   simp only [Cell.okWide, ht, Cell.ok] at hval
   exact hval.2.2.2.1
  obtain ⟨blk, off, spot⟩ := a
  subst hsp
  have hlz : len ≤ zs.length := by rw [hz]; split <;> omega
  obtain ⟨b, rfl, hb⟩ := nats_of zs hwf
  rw [List.length_map] at hlz hcell
  have hlen : (b.take len).length = len := by rw [List.length_take]; omega
  refine ⟨b.take len, fun x hx => hb x (List.mem_of_mem_take hx), ?_⟩
  rw [hlen]
  refine VR.list (a' := ⟨blk, off, none⟩) hl (fun i => .int .u8 ((b.map fun x : Nat => (x : Int)).getD i 0)) (fun i hi => ?_) (fun i v hv => ?_)
  ·rw [List.length_map, hlen] at hi
   have := hcell i (by omega)
   rw [show (⟨blk, off, none⟩ : Addr).add i = ⟨blk, off + i, none⟩ by unfold Addr.add; split <;> simp_all] at this
   exact this
  ·rw [List.getElem?_map] at hv
   have hi : i < len := by
    have := (List.getElem?_eq_some_iff.1 (show ((b.take len).map (fun x => Value.int .u8 (x : Nat)))[i]? = some v by rw [List.getElem?_map]; exact hv)).1
    rw [List.length_map, hlen] at this; exact this
   rw [List.getElem?_take, if_pos hi, List.getElem?_eq_getElem (by omega)] at hv
   cases hv
   rw [List.getD_eq_getElem?_getD, List.getElem?_map, List.getElem?_eq_getElem (by omega)]
   exact .flat rfl
theorem rngT_bit (lo n j : Nat) : (rng lo n).getLsbD j = (decide (j < 256) && decide (lo ≤ j ∧ j < lo + n)) := by
 have fold : ∀ (l : List Nat) (s : BitVec 256) (j : Nat), (l.foldl (fun s x => s ||| one x) s).getLsbD j = (s.getLsbD j || (decide (j < 256) && decide (j ∈ l))) := by
  intro l
  induction l with
  | nil => intro s j; simp
  | cons a l ih =>
   intro s j
   rw [List.foldl_cons, ih, BitVec.getLsbD_or, wtgb]
   cases s.getLsbD j <;> by_cases h1 : j < 256 <;> by_cases h2 : j = a <;> by_cases h3 : j ∈ l <;> simp [h1, h2, h3] <;> simp_all
 unfold rng ofL
 rw [fold]
 simp only [List.mem_range'_1, BitVec.getLsbD_zero, Bool.false_or]
theorem whzb (l : List Nat) (j : Nat) : (ofL l).getLsbD j = (decide (j < 256) && decide (j ∈ l)) := by
 have fold : ∀ (l : List Nat) (s : BitVec 256) (j : Nat), (l.foldl (fun s x => s ||| one x) s).getLsbD j = (s.getLsbD j || (decide (j < 256) && decide (j ∈ l))) := by
  intro l
  induction l with
  | nil => intro s j; simp
  | cons a l ih =>
   intro s j
   rw [List.foldl_cons, ih, BitVec.getLsbD_or, wtgb]
   cases s.getLsbD j <;> by_cases h1 : j < 256 <;> by_cases h2 : j = a <;> by_cases h3 : j ∈ l <;> simp [h1, h2, h3] <;> simp_all
 unfold ofL
 rw [fold]
 simp
end
end Go.Den
namespace Go.Proofs.Ytjihbfdbgamcdaa
open Go.Den
noncomputable section
theorem whv : (true == true) = true := rfl
theorem wiv : (false == false) = true := rfl
theorem wjv : (true == false) = false := rfl
theorem wkv : (false == true) = false := rfl
theorem cntT_eq (s : BitVec 256) : ∀ n, n ≤ 4 → cntW s n = (List.range (64 * n)).countP s.getLsbD := by
 intro n
 induction n with
 | zero => intro _; rfl
 | succ n ih =>
  intro h
  rw [show 64 * (n + 1) = 64 * n + 64 by omega, List.range_add, List.countP_append, ← ih (by omega), cntW, wnob, List.countP_map]
  congr 1
  refine List.countP_congr fun j hj => ?_
  have hj' : j < 64 := List.mem_range.1 hj
  have h1 := wfk s n j
  rw [show (wd s n).getLsbD j = (wd s n).toNat.testBit j from rfl] at h1
  rw [h1, decide_eq_true hj', Bool.true_and]
  rfl
theorem wbjb (s : BitVec 256) : cnt s = (mem s 256).length := by
 unfold cnt
 rw [cntT_eq s 4 (by omega), List.countP_eq_length_filter]; rfl
theorem wizb (s : BitVec 256) (i : Nat) : ∀ k, mem s i <+: mem s (i + k) := by
 intro k
 induction k with
 | zero => exact List.prefix_refl _
 | succ k ih =>
  refine List.IsPrefix.trans ih ?_
  cases h : s.getLsbD (i + k) with
  | true => rw [show i + (k + 1) = i + k + 1 by omega, wqq h]; exact List.prefix_append _ _
  | false => rw [show i + (k + 1) = i + k + 1 by omega, wgu h]; exact List.prefix_refl _
theorem mem_le {s : BitVec 256} {i j : Nat} (h : i ≤ j) : (mem s i).length ≤ (mem s j).length := by
 have := wizb s i (j - i)
 rw [show i + (j - i) = j by omega] at this
 exact this.length_le
theorem wcjb {s : BitVec 256} {i : Nat} (hi : i < 256) (h : s.getLsbD i = true) : (mem s i).length < (mem s 256).length ∧ (byC (mem s 256))[(mem s i).length]? = some (.int .u8 (i : Nat)) ∧ (mem s (i + 1)).length = (mem s i).length + 1 := by
 have hp := wizb s (i + 1) (256 - (i + 1))
 rw [show i + 1 + (256 - (i + 1)) = 256 by omega, wqq h] at hp
 obtain ⟨r, hr⟩ := hp
 refine ⟨?_, ?_, ?_⟩
 ·rw [← hr]; simp
 ·rw [← hr, byC, List.getElem?_map]; simp
 ·rw [wqq h]; simp
theorem wdjb {s : BitVec 256} {i : Nat} (h : s.getLsbD i = false) : (mem s (i + 1)).length = (mem s i).length := by rw [wgu h]
def inL : List Nat → List Int → List Int
 | [], m => m
 | x :: l, m => inL l (putI x m)
theorem put_mem {x y : Int} {m : List Int} : y ∈ putI x m ↔ y = x ∨ y ∈ m := by
 unfold putI
 by_cases h : x ∈ m
 ·rw [if_pos h]
  constructor
  ·exact .inr
  ·rintro (rfl | h1)
   ·exact h
   ·exact h1
 ·rw [if_neg h]
  simp [or_comm]
theorem inL_mem {y : Int} : ∀ (l : List Nat) (m : List Int), y ∈ inL l m ↔ y ∈ l.map (fun x : Nat => (x : Int)) ∨ y ∈ m := by
 intro l
 induction l with
 | nil => intro m; simp [inL]
 | cons a l ih =>
  intro m
  rw [inL, ih, put_mem]
  simp only [List.map_cons, List.mem_cons]
  constructor
  ·rintro (h | h | h)
   ·exact .inl (.inr h)
   ·exact .inl (.inl h)
   ·exact .inr h
  ·rintro ((h | h) | h)
   ·exact .inr (.inl h)
   ·exact .inl h
   ·exact .inr (.inr h)
theorem inL_nat {l : List Nat} {j : Nat} : decide ((j : Int) ∈ inL l []) = decide (j ∈ l) := by
 refine decide_eq_decide.2 ?_
 rw [inL_mem]
 simp only [List.mem_map, List.not_mem_nil, or_false]
 constructor
 ·rintro ⟨a, h, e⟩
  obtain rfl : a = j := by omega
  exact h
 ·exact fun h => ⟨j, h, rfl⟩
end
end Go.Proofs.Ytjihbfdbgamcdaa
namespace Go.Proofs.Ytjihbfdbgamcdaa
open Go.Den
noncomputable section
end
end Go.Proofs.Ytjihbfdbgamcdaa
namespace Go.Proofs.Ytjihbfdbgamcdaa
set_option linter.unusedVariables false
set_option linter.unusedSimpArgs false
open Go.Den
noncomputable section
end
end Go.Proofs.Ytjihbfdbgamcdaa
namespace Go.Proofs.Ytjihbfdbgamcdaa
set_option linter.unusedVariables false
set_option linter.unusedSimpArgs false
open Go.Den
noncomputable section
abbrev mkB (ks ns : List Int) (ere : Bool) : List Value := [FL ks.length (ints ks), FL ns.length (ints ns), .bool ere, .pointer (some ⟨0, 0, none⟩), .pointer (some ⟨1, 0, none⟩), .pointer (some ⟨2, 0, none⟩)]
abbrev mkH (a g l : Int) : List ABlk := [X [.int .i64 a] 3 0 true, X [.int .i64 g] 3 0 true, X [.int .i64 l] 3 0 true]
end
end Go.Proofs.Ytjihbfdbgamcdaa
namespace Go.Proofs.Ytjihbfdbgamcdaa
set_option linter.unusedVariables false
set_option linter.unusedSimpArgs false
open Go.Den
noncomputable section
end
end Go.Proofs.Ytjihbfdbgamcdaa
namespace Go.Proofs.Ytjihbfdbgamcdaa
set_option linter.unusedVariables false
set_option linter.unusedSimpArgs false
open Go.Den
noncomputable section
end
end Go.Proofs.Ytjihbfdbgamcdaa
namespace Go.Proofs.Ytjihbfdbgamcdaa
set_option linter.unusedVariables false
set_option linter.unusedSimpArgs false
open Go.Den
noncomputable section
end
end Go.Proofs.Ytjihbfdbgamcdaa
namespace Go.Proofs.Ytjihbfdbgamcdaa
set_option linter.unusedVariables false
set_option linter.unusedSimpArgs false
open Go.Den
noncomputable section
end
end Go.Proofs.Ytjihbfdbgamcdaa
namespace Go.Proofs.Ytjihbfdbgamcdaa
set_option linter.unusedVariables false
set_option linter.unusedSimpArgs false
open Go.Den
noncomputable section
end
end Go.Proofs.Ytjihbfdbgamcdaa
namespace Go.Proofs.Ytjihbfdbgamcdaa
set_option linter.unusedVariables false
set_option linter.unusedSimpArgs false
open Go.Den
noncomputable section
def rxK (t n : Nat) (c : List Value) : List Value := [.int .i64 2, .int .i64 0, .int .i64 0, .int .i64 0, .int .u64 0, .int .u64 0, .int .u64 0, .int .u64 0, FO t n c]
def PkOk (ks ns : List Int) (ere : Bool) (args : List Value) (M : Nat) : Prop :=
 ∀ (a : Nat) (g l : Int), a + M ≤ 100000 → 0 ≤ g → g ≤ 3 → -1000000 + 2 * (M : Int) ≤ l → l ≤ 1000 →
  ∃ (r : Rx) (a' : Nat) (g' l' : Int), ((lim Try.prog cfg (.call 87 (.agg ⟨mkB ks ns ere⟩ :: args)) (HP (mkH a g l)) = some (.val (.agg ⟨rxC r⟩), HP (mkH a' g' l')) ∧ r.kind ≠ 2) ∨
   ∃ rs : List Rx, r = .mk 2 0 0 0 0#256 rs ∧ 2 ≤ rs.length ∧ rs.length ≤ 3 ∧ lim Try.prog cfg (.call 87 (.agg ⟨mkB ks ns ere⟩ :: args)) (HP (mkH a g l)) = some (.val (.agg ⟨rxK 3 rs.length (rxsC rs)⟩), HP (mkH a' g' l' ++ [.tok rs.length 46 9])))
   ∧ wyxb r ≤ M ∧ a' ≤ a + M ∧ 0 ≤ g' ∧ g' ≤ 3 ∧ l - 2 * (M : Int) ≤ l' ∧ l' ≤ l
end
end Go.Proofs.Ytjihbfdbgamcdaa
namespace Go.Proofs.Ytjihbfdbgamcdaa
set_option linter.unusedVariables false
set_option linter.unusedSimpArgs false
open Go.Den
noncomputable section
end
end Go.Proofs.Ytjihbfdbgamcdaa
namespace Go.Proofs.Ytjihbfdbgamcdaa
set_option linter.unusedVariables false
set_option linter.unusedSimpArgs false
open Go.Den
noncomputable section
end
end Go.Proofs.Ytjihbfdbgamcdaa
namespace Go.Proofs.Ytjihbfdbgamcdaa
set_option linter.unusedVariables false
set_option linter.unusedSimpArgs false
open Go.Den
noncomputable section
theorem PkOk.mono {ks ns : List Int} {ere : Bool} {args : List Value} {M N : Nat} (h : PkOk ks ns ere args M) (hMN : M ≤ N) : PkOk ks ns ere args N := by
 intro a g l ha hg hg3 hl hl2
 obtain ⟨r, a', g', l', e, b1, b2, b3, b4, b5, b6⟩ := h a g l (by omega) hg hg3 (by omega) hl2
 exact ⟨r, a', g', l', e, by omega, by omega, b3, b4, by omega, b6⟩
end
end Go.Proofs.Ytjihbfdbgamcdaa
namespace Go.Proofs.Ytjihbfdbgamcdaa
set_option linter.unusedVariables false
set_option linter.unusedSimpArgs false
open Go.Den
noncomputable section
end
end Go.Proofs.Ytjihbfdbgamcdaa
namespace Go.Proofs.Ytjihbfdbgamcdaa
open Go.Den
noncomputable section
end
end Go.Proofs.Ytjihbfdbgamcdaa
namespace Go.Den
noncomputable section
end
end Go.Den
namespace Go.Proofs.Ytjihbfdbgamcdaa
open Go.Den
noncomputable section
end
end Go.Proofs.Ytjihbfdbgamcdaa
