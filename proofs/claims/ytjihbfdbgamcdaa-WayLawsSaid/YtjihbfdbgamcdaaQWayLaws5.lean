/-
  PARTS OF A PROOF, joined by a program (5 of 8): a proved reckoner of the model, and what the functions come to.
-/
import Derived.Test.YtjihbfdbgamcdaaQWayLaws4
import Derived.Laws.Strings
import Derived.Test.YtjihbfdbgamcdaaProg
import Derived.KernelRfl
set_option linter.unusedVariables false
set_option linter.unusedSimpArgs false
namespace Go.Den
noncomputable section
variable {P : Program} {cfg : Cfg}
structure Fzn (v : Value) : Prop where
 refs : refs v = []
 toks : toks v = []
 no : wmf v = true
 ren : ∀ m, renV m v = v
structure Sl (k : Nat) (v v' : Value) : Prop where
 sl : ∀ (P : Program) (H : AH) (d : Nat), k ≤ d → wpg P H (whd P H d) v = some (v', [])
 fz : Fzn v'
inductive SlL (k : Nat) : List Value → List Value → Prop
 | nil : SlL k [] []
 | cons {v v' : Value} {l l' : List Value} (h : Sl k v v') (t : SlL k l l') : SlL k (v :: l) (v' :: l')
theorem Sl.mono {k m : Nat} {v v' : Value} (h : Sl k v v') (hk : k ≤ m) : Sl m v v' := ⟨fun P H d hd => h.sl P H d (by omega), h.fz⟩
theorem SlL.mono {k m : Nat} {v v' : List Value} (h : SlL k v v') (hk : k ≤ m) : SlL m v v' := by
 induction h with
 | nil => exact .nil
 | cons h _ ih => exact .cons (h.mono hk) ih
theorem wru (P : Program) (H : AH) (d : Nat) (v : Value) (l : List Value) : whd P H (d + 1) (v :: l) = weab (one2 (wpg P H (whd P H d) v)) (whd P H (d + 1) l) := rfl
theorem SlL.sl {k : Nat} {v v' : List Value} (h : SlL k v v') (P : Program) (H : AH) (d : Nat) (hd : k ≤ d) : whd P H (d + 1) v = some (v', []) := by
 induction h with
 | nil => rfl
 | cons h _ ih => rw [wru, h.sl P H d hd, ih]; rfl
theorem SlL.fz {k : Nat} {v v' : List Value} (h : SlL k v v') : wjf v' = [] ∧ wxp v' = [] ∧ wqb v' = true ∧ ∀ m, wne m v' = v' := by
 induction h with
 | nil => exact ⟨rfl, rfl, rfl, fun _ => rfl⟩
 | cons h _ ih => exact ⟨by simp [wjf, h.fz.refs, ih.1], by simp [wxp, h.fz.toks, ih.2.1], by simp [wqb, h.fz.no, ih.2.2.1], fun m => by simp [wne, h.fz.ren m, ih.2.2.2 m]⟩
theorem Sl.int (k : IntKind) (n : Int) : Sl 0 (.int k n) (.int k n) := ⟨fun _ _ _ _ => rfl, ⟨rfl, rfl, rfl, fun _ => rfl⟩⟩
theorem Sl.bool (b : Bool) : Sl 0 (.bool b) (.bool b) := ⟨fun _ _ _ _ => rfl, ⟨rfl, rfl, rfl, fun _ => rfl⟩⟩
theorem Sl.string (s : ByteArray) : Sl 0 (.string s) (.string s) := ⟨fun _ _ _ _ => rfl, ⟨rfl, rfl, rfl, fun _ => rfl⟩⟩
theorem Sl.complex (k : FloatKind) (a b : Nat) : Sl 0 (.complex k a b) (.complex k a b) := ⟨fun _ _ _ _ => rfl, ⟨rfl, rfl, rfl, fun _ => rfl⟩⟩
theorem Sl.fl (n : Nat) (cs : List Value) : Sl 0 (FL n cs) (FL n cs) := ⟨fun _ _ _ _ => rfl, ⟨rfl, rfl, rfl, fun _ => rfl⟩⟩
theorem Sl.fo (t n : Nat) (cs : List Value) : Sl 0 (FO t n cs) (FL n cs) := ⟨fun _ _ _ _ => rfl, ⟨rfl, rfl, rfl, fun _ => rfl⟩⟩
theorem Sl.nilS : Sl 0 (.slice none 0 0) (FL 0 []) := ⟨fun _ _ _ _ => rfl, ⟨rfl, rfl, rfl, fun _ => rfl⟩⟩
theorem Sl.agg {k : Nat} {cs cs' : List Value} (h : SlL k cs cs') : Sl (k + 1) (.agg ⟨cs⟩) (.agg ⟨cs'⟩) := by
 refine ⟨fun P H d hd => ?_, ?_⟩
 ·obtain ⟨d', rfl⟩ : ∃ d', d = d' + 1 := ⟨d - 1, by omega⟩
  show (match whd P H (d' + 1) cs with | some (l, f) => some (Value.agg ⟨l⟩, f) | none => none) = _
  rw [h.sl P H d' (by omega)]
 ·obtain ⟨h1, h2, h3, h4⟩ := h.fz
  exact ⟨h1, h2, h3, fun m => by show Value.agg ⟨wne m cs'⟩ = _; rw [h4]⟩
theorem Sl.tuple {k : Nat} {cs cs' : List Value} (h : SlL k cs cs') : Sl (k + 1) (.tuple ⟨cs⟩) (.tuple ⟨cs'⟩) := by
 refine ⟨fun P H d hd => ?_, ?_⟩
 ·obtain ⟨d', rfl⟩ : ∃ d', d = d' + 1 := ⟨d - 1, by omega⟩
  show (match whd P H (d' + 1) cs with | some (l, f) => some (Value.tuple ⟨l⟩, f) | none => none) = _
  rw [h.sl P H d' (by omega)]
 ·obtain ⟨h1, h2, h3, h4⟩ := h.fz
  exact ⟨h1, h2, h3, fun m => by show Value.tuple ⟨wne m cs'⟩ = _; rw [h4]⟩
abbrev X (cs : List Value) (elem : TypeId) (frz : Nat) (pf : Bool) : ABlk := .cells { cells := cs, elem := elem, esz := 1, lens := [], wver := 0, frz := frz, mark := false, pf := pf }
theorem wcdc (cs : List Value) (elem : TypeId) : exact cs elem = X cs elem 0 (wqb cs) := rfl
end
end Go.Den
namespace Go.Den
noncomputable section
variable {P : Program} {cfg : Cfg} {R : Type}
theorem nble (a b : Nat) : Nat.ble a b = decide (a ≤ b) := by
 by_cases h : a ≤ b
 ·rw [Nat.ble_eq_true_of_le h]; simp [h]
 ·simp only [h, decide_false]
  cases hb : Nat.ble a b with
  | false => rfl
  | true => exact absurd (Nat.le_of_ble_eq_true hb) h
theorem nblt (a b : Nat) : Nat.blt a b = decide (a < b) := nble (a + 1) b
theorem nbeq (a b : Nat) : Nat.beq a b = decide (a = b) := by
 by_cases h : a = b
 ·subst h; simp
 ·simp only [h, decide_false]
  cases hb : Nat.beq a b with
  | false => rfl
  | true => exact absurd (Nat.eq_of_beq_eq_true hb) h
theorem wrg {k : Nat} (h : k ≤ 1099511627774) : wac k = true := Nat.ble_eq_true_of_le h
theorem wrap_i64 {n : Int} (h1 : -9223372036854775808 ≤ n) (h2 : n ≤ 9223372036854775807) : IntKind.wrap .i64 n = n := by
 have hw : IntKind.wrap .i64 n = if n % 18446744073709551616 ≥ 9223372036854775808 then n % 18446744073709551616 - 18446744073709551616 else n % 18446744073709551616 := by
  show (if (true && decide (n % (2 ^ 64 : Int) ≥ (2 ^ 63 : Int))) = true then n % (2 ^ 64 : Int) - (2 ^ 64 : Int) else n % (2 ^ 64 : Int)) = _
  simp only [Bool.true_and, decide_eq_true_eq]
  rfl
 rw [hw]
 split <;> omega
theorem wrap_u8 {n : Int} (h1 : 0 ≤ n) (h2 : n ≤ 255) : IntKind.wrap .u8 n = n := by
 rw [wkk rfl]
 show n % 2 ^ 8 = n
 omega
theorem wrap_u64 {n : Int} (h1 : 0 ≤ n) (h2 : n ≤ 18446744073709551615) : IntKind.wrap .u64 n = n := by
 rw [wkk rfl]
 show n % 2 ^ 64 = n
 omega
theorem wnq {k : IntKind} {i : Int} (h : 0 ≤ i) : wom (.int k i) = some i.toNat := by
 obtain ⟨n, rfl⟩ := Int.eq_ofNat_of_zero_le h
 rfl
section
variable {f : FuncId} {p : Nat} {rec : Rec} {K : KC R} {e : Env} {H : AH}
theorem wowb : wlj P cfg f p rec .skip K e H = K .normal e H := rfl
theorem wddc : wlj P cfg f p rec .ret K e H = K .ret e H := rfl
theorem wpwb {id : Nat} : wlj P cfg f p rec (.exit id) K e H = K (.exit id) e H := rfl
theorem wedc {l : List RO} : wlj P cfg f p rec (.ops l) K e H = opsR P (callS P cfg rec) (K .normal) l e H := rfl
theorem wqwb {b : Array Nat} {l : List RO} : wlj P cfg f p rec (.draw b l) K e H = wih P (callS P cfg rec) b (K .normal) l 0 [] e H := rfl
theorem wfdc {a b : RC} : wlj P cfg f p rec (.seq a b) K e H = wlj P cfg f p rec a (seqK (wlj P cfg f p rec b K) K) e H := rfl
theorem wjpb {id : Nat} {a : RC} : wlj P cfg f p rec (.block id a) K e H = wlj P cfg f p rec a (wlx id K) e H := rfl
theorem wrwb {c : Code} : wlj P cfg f p rec (.loop c) K e H = wudb rec f p c e H K (cfg.live f (wnc c)) := rfl
def condC (P : Program) (cfg : Cfg) (f : FuncId) (p : Nat) (rec : Rec) (a b : RC) (K : KC R) (e : Env) (H : AH) (v : Value) : Option R := wekb v (wlj P cfg f p rec a K e H) (wlj P cfg f p rec b K e H)
theorem wswb {c : Operand} {a b : RC} : wlj P cfg f p rec (.cond c a b) K e H = condC P cfg f p rec a b K e H (evl e c) := rfl
theorem wtwb {a b : RC} : condC P cfg f p rec a b K e H (.bool true) = wlj P cfg f p rec a K e H := rfl
theorem wkpb {a b : RC} : condC P cfg f p rec a b K e H (.bool false) = wlj P cfg f p rec b K e H := rfl
theorem wgdc {a b : RC} {q : Prop} [Decidable q] (h : q) : condC P cfg f p rec a b K e H (.bool (decide q)) = wlj P cfg f p rec a K e H := by rw [decide_eq_true h]; rfl
theorem whdc {a b : RC} {q : Prop} [Decidable q] (h : ¬ q) : condC P cfg f p rec a b K e H (.bool (decide q)) = wlj P cfg f p rec b K e H := by rw [decide_eq_false h]; rfl
theorem wlpb {K1 : KR R} : seqK K1 K .normal e H = K1 e H := rfl
theorem seqK_ret {K1 : KR R} : seqK K1 K .ret e H = K .ret e H := rfl
theorem widc {K1 : KR R} {id : Nat} : seqK K1 K (.exit id) e H = K (.exit id) e H := rfl
theorem wshb {id : Nat} : wlx id K .normal e H = K .normal e H := rfl
theorem wuwb {id : Nat} : wlx id K .ret e H = K .ret e H := rfl
theorem wmpb {id : Nat} : wlx id K (.exit id) e H = K .normal e H := by
 show (bif Nat.beq id id then K .normal e H else K (.exit id) e H) = _
 rw [Nat.beq_refl]; rfl
end
section
variable {cs : wad} {K : KR R} {d : Option Tmp} {l : List RO} {e : Env} {H : AH}
def opsI (P : Program) (cs : wad) (K : KR R) (d : Option Tmp) (l : List RO) (e : Env) (H : AH) (wr : List Nat) (r : ARes) : Option R := opsK (wdm cs wr H r) d e (opsR P cs K l)
theorem opsR_nil : opsR P cs K [] e H = K e H := rfl
theorem opsR_ins {i : Ins} : opsR P cs K (⟨d, none, .ins i⟩ :: l) e H = opsI P cs K d l e H (wz e i) (insA P e H H.n i) := rfl
theorem wjdc {op : BinOp} {k : IntKind} {x y : Operand} : opsR P cs K (⟨d, none, .int2 op k x y⟩ :: l) e H = opsI P cs K d l e H [] (whm op k (evl e x) (evl e y)) := rfl
theorem wvwb {op : BinOp} {x y : Operand} : opsR P cs K (⟨d, none, .shift op x y⟩ :: l) e H = opsI P cs K d l e H [] (wlv op (evl e x) (evl e y)) := rfl
theorem wkdc {k : IntKind} {x : Operand} : opsR P cs K (⟨d, none, .conv k x⟩ :: l) e H = opsI P cs K d l e H [] (wbpb k (evl e x)) := rfl
theorem opsR_un {op : UnOp} {x : Operand} : opsR P cs K (⟨d, none, .un op x⟩ :: l) e H = opsI P cs K d l e H [] (unV op (evl e x)) := rfl
theorem opsR_eqb {neg : Bool} {x y : Operand} : opsR P cs K (⟨d, none, .eqb neg x y⟩ :: l) e H = opsI P cs K d l e H [] (eqbV neg (evl e x) (evl e y)) := rfl
theorem wldc {op : BinOp} {x y : Operand} : opsR P cs K (⟨d, none, .str2 op x y⟩ :: l) e H = opsI P cs K d l e H [] (wxkb op (evl e x) (evl e y)) := rfl
theorem wmdc {x y : Operand} : opsR P cs K (⟨d, none, .sidx x y⟩ :: l) e H = opsI P cs K d l e H [] (wohb (evl e x) (evl e y)) := rfl
theorem wndc {x : Operand} : opsR P cs K (⟨d, none, .slen x⟩ :: l) e H = opsI P cs K d l e H [] (wcpb (evl e x)) := rfl
theorem opsR_ssl {x : Operand} {lo hi : Option Operand} : opsR P cs K (⟨d, none, .ssl x lo hi⟩ :: l) e H = opsI P cs K d l e H [] (sslV (evl e x) (lo.map (evl e)) (hi.map (evl e))) := rfl
theorem wodc {x : Operand} : opsR P cs K (⟨d, none, .lenS x⟩ :: l) e H = opsI P cs K d l e H [] (wphb (evl e x)) := rfl
theorem opsR_slS {size : Nat} {x : Operand} {lo hi mx : Option Operand} : opsR P cs K (⟨d, none, .slS size x lo hi mx⟩ :: l) e H = opsI P cs K d l e H [] (slSR e H size (evl e x) lo hi mx) := rfl
theorem wpdc {kt : Nat} {zero : Value} {ok : Bool} {m k : Operand} : opsR P cs K (⟨d, none, .look kt zero ok m k⟩ :: l) e H = opsI P cs K d l e H [] (wykb P H kt zero ok (evl e m) (evl e k)) := rfl
theorem wqdc {x : Operand} : opsR P cs K (⟨d, none, .lenM x⟩ :: l) e H = opsI P cs K d l e H [] (wdpb H (evl e x)) := rfl
theorem opsR_eqc {neg : Bool} {ks : List AK} {x y : Operand} : opsR P cs K (⟨d, none, .eqc neg ks x y⟩ :: l) e H = opsI P cs K d l e H [] (eqcV neg ks (evl e x) (evl e y)) := rfl
theorem opsR_mm {mx : Bool} {x : Operand} {r : List Operand} : opsR P cs K (⟨d, none, .mm mx x r⟩ :: l) e H = opsI P cs K d l e H [] (mmV mx (evl e x) (evls e r)) := rfl
theorem wrdc {x : Operand} : opsR P cs K (⟨d, none, .topu x⟩ :: l) e H = opsI P cs K d l e H [] (topuR H (evl e x)) := rfl
theorem wsdc {u : TypeId} {x : Operand} : opsR P cs K (⟨d, none, .frpu u x⟩ :: l) e H = opsI P cs K d l e H [] (frpuR P H u (evl e x)) := rfl
theorem opsR_b2s {x : Operand} : opsR P cs K (⟨d, none, .b2s x⟩ :: l) e H = opsI P cs K d l e H [] (b2sR H (evl e x)) := rfl
theorem opsI_val {wr : List Nat} {v : Value} : opsI P cs K d l e H wr (val v) = opsR P cs K l (e.put d v) H := rfl
theorem wtdc {wr : List Nat} {v : Value} : opsI P cs K d l e H wr (valO (some v)) = opsR P cs K l (e.put d v) H := rfl
theorem opsI_new {wr : List Nat} {v : Value} {b : ABlk} {h : List ABlk} (hl : h.length ≤ 1099511627774) : opsI P cs K d l e (HP h) wr (.simple v (some b)) = opsR P cs K l (e.put d v) (HP (h ++ [b])) := by
 show opsK (bif wac (HP h).n then Did.did v (some b) false ((HP h).push b) [] else Did.none) d e (opsR P cs K l) = _
 rw [HP_n, wrg hl, wao]
 rfl
theorem opsI_eff {wr : List Nat} {v : Value} {h h' : List ABlk} (hl : h.length ≤ h'.length) : opsI P cs K d l e (HP h) wr (.eff v (HP h')) = opsR P cs K l (e.put d v) (HP h') := by
 show opsK (bif Nat.ble (HP h).n (HP h').n then Did.did v .none true (HP h') wr else Did.none) d e (opsR P cs K l) = _
 rw [HP_n, HP_n, Nat.ble_eq_true_of_le hl]
 rfl
theorem wudc {wr : List Nat} {f : FuncId} {args : List Value} : opsI P cs K d l e H wr (.call f args) = opsK (cs f args H) d e (opsR P cs K l) := rfl
end
theorem evl_tmp {e : Env} {t : Tmp} : evl e (.tmp t) = e.get t := rfl
theorem wvdc {e : Env} {v : Value} : evl e (.const v) = v := rfl
theorem evls_nil {e : Env} : evls e [] = [] := rfl
theorem wwdc {e : Env} {x : Operand} {l : List Operand} : evls e (x :: l) = evl e x :: evls e l := rfl
theorem int2_add {k : IntKind} {a b : Int} : whm .add k (.int k a) (.int k b) = val (.int k (k.wrap (a + b))) := by simp [whm, intR, valO]
theorem int2_sub {k : IntKind} {a b : Int} : whm .sub k (.int k a) (.int k b) = val (.int k (k.wrap (a - b))) := by simp [whm, intR, valO]
theorem int2_quo {k : IntKind} {a b : Int} (h : b ≠ 0) : whm .quo k (.int k a) (.int k b) = val (.int k (k.wrap (a.tdiv b))) := by simp [whm, intR, valO, h]
theorem int2_rem {k : IntKind} {a b : Int} (h : b ≠ 0) : whm .rem k (.int k a) (.int k b) = val (.int k (a.tmod b)) := by simp [whm, intR, valO, h]
theorem int2_eql {k : IntKind} {a b : Int} : whm .eql k (.int k a) (.int k b) = val (.bool (decide (a = b))) := by
 simp only [whm, intR, valO, and_self, if_true]
 rw [show (a == b) = decide (a = b) from rfl]
theorem int2_neq {k : IntKind} {a b : Int} : whm .neq k (.int k a) (.int k b) = val (.bool (decide (a ≠ b))) := by
 simp only [whm, intR, valO, and_self, if_true]
 rw [show (a != b) = !(decide (a = b)) from rfl, ← decide_not]
theorem int2_lss {k : IntKind} {a b : Int} : whm .lss k (.int k a) (.int k b) = val (.bool (decide (a < b))) := by simp [whm, intR, valO]
theorem int2_leq {k : IntKind} {a b : Int} : whm .leq k (.int k a) (.int k b) = val (.bool (decide (a ≤ b))) := by simp [whm, intR, valO]
theorem int2_gtr {k : IntKind} {a b : Int} : whm .gtr k (.int k a) (.int k b) = val (.bool (decide (b < a))) := by simp [whm, intR, valO]
theorem int2_geq {k : IntKind} {a b : Int} : whm .geq k (.int k a) (.int k b) = val (.bool (decide (b ≤ a))) := by simp [whm, intR, valO]
theorem int2_and {k : IntKind} {a b : Int} : whm .and k (.int k a) (.int k b) = val (.int k (k.wrap (BitVec.ofInt k.bits a &&& BitVec.ofInt k.bits b).toNat)) := by simp [whm, intR, wxdb, valO]
theorem int2_or {k : IntKind} {a b : Int} : whm .or k (.int k a) (.int k b) = val (.int k (k.wrap (BitVec.ofInt k.bits a ||| BitVec.ofInt k.bits b).toNat)) := by simp [whm, intR, wxdb, valO]
theorem shift_shl {j k : IntKind} {a b : Int} (h : 0 ≤ b) : wlv .shl (.int j a) (.int k b) = val (.int j (j.wrap (a * 2 ^ (min b.toNat j.bits)))) := by
 simp only [wlv, wkv, if_neg (show ¬ b < 0 by omega), valO]
theorem shift_shr {j k : IntKind} {a b : Int} (h : 0 ≤ b) : wlv .shr (.int j a) (.int k b) = val (.int j (a.fdiv (2 ^ (min b.toNat j.bits)))) := by
 simp only [wlv, wkv, if_neg (show ¬ b < 0 by omega), valO]
theorem conv_int {j k : IntKind} {a : Int} : wbpb k (.int j a) = val (.int k (k.wrap a)) := rfl
theorem un_not {b : Bool} : unV .not (.bool b) = val (.bool (!b)) := rfl
theorem un_neg {k : IntKind} {n : Int} : unV .neg (.int k n) = val (.int k (k.wrap (0 - n))) := rfl
theorem eqb_eq {a b : Bool} : eqbV false (.bool a) (.bool b) = val (.bool (a == b)) := rfl
theorem eqb_ne {a b : Bool} : eqbV true (.bool a) (.bool b) = val (.bool (!(a == b))) := rfl
theorem slen_str {l : List UInt8} : wcpb (str l) = val (.int .i64 l.length) := rfl
theorem isJK_int {k : IntKind} {n : Int} : isJK (.int k n) = false := eq_of_heq HEq.rfl
theorem wxdc {b : Bool} : isJK (.bool b) = false := eq_of_heq HEq.rfl
theorem wnpb {s : ByteArray} : isJK (.string s) = false := eq_of_heq HEq.rfl
theorem isJK_agg {cs : Array Value} : isJK (.agg cs) = false := eq_of_heq HEq.rfl
theorem isJK_ptr {a : Option Addr} : isJK (.pointer a) = false := eq_of_heq HEq.rfl
theorem wwwb {a : Option Addr} {n c : Nat} : isJK (.slice a n c) = false := eq_of_heq HEq.rfl
theorem wopb {n : Nat} {cs : List Value} : isJK (FL n cs) = false := by unfold isJK; split <;> simp_all
theorem wppb {t n : Nat} {cs : List Value} : isJK (FO t n cs) = false := by unfold isJK; split <;> simp_all
theorem wydc {cs : Array Value} : (Value.agg cs).cells = cs := eq_of_heq HEq.rfl
theorem wzdc {k : IntKind} {n : Int} : (Value.int k n).cells = ⟨[.int k n]⟩ := eq_of_heq HEq.rfl
theorem wxwb {b : Bool} : (Value.bool b).cells = ⟨[.bool b]⟩ := eq_of_heq HEq.rfl
theorem wdlb {s : ByteArray} : (Value.string s).cells = ⟨[.string s]⟩ := eq_of_heq HEq.rfl
theorem wqpb {a : Option Addr} {n c : Nat} : (Value.slice a n c).cells = ⟨[.slice a n c]⟩ := eq_of_heq HEq.rfl
theorem cells_func {f : Fn} {a c : Array Value} : (Value.func f a c).cells = ⟨[.func f a c]⟩ := eq_of_heq HEq.rfl
theorem waec {a : Option Addr} : (Value.pointer a).cells = ⟨[.pointer a]⟩ := eq_of_heq HEq.rfl
theorem wez {v : Value} (h1 : ∀ cs, v ≠ .agg cs) (h2 : ∀ cs, v ≠ .tuple cs) (h3 : isJK v = false) : oneCell v = true := by
 unfold oneCell
 split
 ·rename_i cs; exact absurd rfl (h1 cs)
 ·rename_i cs; exact absurd rfl (h2 cs)
 ·rw [h3]; rfl
theorem wrpb {k : IntKind} {n : Int} : oneCell (.int k n) = true := eq_of_heq HEq.rfl
theorem welb {b : Bool} : oneCell (.bool b) = true := eq_of_heq HEq.rfl
theorem wzdb {s : ByteArray} : oneCell (.string s) = true := eq_of_heq HEq.rfl
theorem wthb {a : Option Addr} {n c : Nat} : oneCell (.slice a n c) = true := eq_of_heq HEq.rfl
theorem wspb {a : Option Addr} : oneCell (.pointer a) = true := eq_of_heq HEq.rfl
theorem wffb {n : Nat} {cs : List Value} : oneCell (FL n cs) = true := wez (fun _ h => by cases h) (fun _ h => by cases h) wopb
theorem wywb {t n : Nat} {cs : List Value} : oneCell (FO t n cs) = true := wez (fun _ h => by cases h) (fun _ h => by cases h) wppb
theorem wzwb {k : IntKind} {n : Int} : wmf (.int k n) = true := eq_of_heq HEq.rfl
theorem wtpb {b : Bool} : wmf (.bool b) = true := eq_of_heq HEq.rfl
theorem wuhb {s : ByteArray} : wmf (.string s) = true := eq_of_heq HEq.rfl
theorem wbec {n : Nat} {cs : List Value} : wmf (FL n cs) = true := eq_of_heq HEq.rfl
theorem wupb : wqb [] = true := eq_of_heq HEq.rfl
theorem wflb {v : Value} {l : List Value} : wqb (v :: l) = (wmf v && wqb l) := eq_of_heq HEq.rfl
def rdX (off n : Nat) : Option ABlk → Option CBlk
 | some (.cells b) => bif rdOk b 0 (off + n) then some b else none
 | _ => none
theorem wvhb {l : List ABlk} (hl : l.length ≤ 1099511627774) {i off n : Nat} : wzi (HP l) ⟨i, off, none⟩ n = rdX off n l[i]? := by
 unfold wzi
 rw [wyg l hl]
 cases l[i]? with
 | none => rfl
 | some b => cases b <;> rfl
theorem rdX_X {cs : List Value} {elem : TypeId} {frz : Nat} {pf : Bool} {off n : Nat} (h : off + n ≤ cs.length) : rdX off n (some (X cs elem frz pf)) = some { cells := cs, elem := elem, esz := 1, lens := [], wver := 0, frz := frz, mark := false, pf := pf } := by
 show (bif Nat.ble 0 0 && (Nat.ble 0 0 && Nat.ble (off + n) cs.length) then _ else _) = _
 rw [Nat.ble_eq_true_of_le h]
 rfl
def wxsb (off : Nat) (b : Option ABlk) : ARes := match rdX off 1 b with
 | some b => valO b.cells[off]?
 | none => .none
theorem load1_HP {l : List ABlk} (hl : l.length ≤ 1099511627774) {i off : Nat} : wjn (HP l) (.pointer (some ⟨i, off, none⟩)) = wxsb off l[i]? := by
 show (match wzi (HP l) ⟨i, off, none⟩ 1 with | some b => valO b.cells[off]? | none => .none) = _
 rw [wvhb hl]
 unfold wxsb
 cases rdX off 1 l[i]? <;> rfl
theorem load1X_X {cs : List Value} {elem : TypeId} {frz : Nat} {pf : Bool} {off : Nat} : wxsb off (some (X cs elem frz pf)) = valO cs[off]? := by
 unfold wxsb
 by_cases h : off + 1 ≤ cs.length
 ·rw [rdX_X h]
 ·rw [List.getElem?_eq_none (by omega)]
  have h0 : rdX off 1 (some (X cs elem frz pf)) = none := by
   show (bif Nat.ble 0 0 && (Nat.ble 0 0 && Nat.ble (off + 1) cs.length) then _ else none) = none
   rw [show Nat.ble (off + 1) cs.length = false by rw [nble, decide_eq_false h]]
   rfl
  rw [h0]; rfl
def wysb (size off : Nat) (b : Option ABlk) : ARes := match rdX off size b with
 | some b => val (.agg (slotsOf b.cells off size).toArray)
 | none => .none
theorem loadN_HP {l : List ABlk} (hl : l.length ≤ 1099511627774) {i off size : Nat} : wgq (HP l) size (.pointer (some ⟨i, off, none⟩)) = wysb size off l[i]? := by
 show (match wzi (HP l) ⟨i, off, none⟩ size with | some b => val (.agg (slotsOf b.cells off size).toArray) | none => .none) = _
 rw [wvhb hl]
 unfold wysb
 cases rdX off size l[i]? <;> rfl
theorem loadNX_X {cs : List Value} {elem : TypeId} {frz : Nat} {pf : Bool} {off size : Nat} (h : off + size ≤ cs.length) : wysb size off (some (X cs elem frz pf)) = val (.agg ⟨slotsOf cs off size⟩) := by
 unfold wysb
 rw [rdX_X h]
def wglb (l : List ABlk) (i off size : Nat) (v : Value) : Option ABlk → ARes
 | some (.cells b) => bif (Nat.beq v.cells.size size && !isJK v) && (Nat.blt i l.length && (rdOk b 0 (off + v.cells.toList.length) && (Nat.beq 0 b.top && (Nat.ble b.frz off && v.cells.toList.all oneCell)))) then
   .eff undef (HP (l.set i (.cells { b with cells := wm b.cells off v.cells.toList, wver := b.top, pf := b.pf && wqb v.cells.toList }))) else .none
 | _ => .none
theorem store_HP {l : List ABlk} (hl : l.length ≤ 1099511627774) {i off size : Nat} {v : Value} : wss (HP l) size (.pointer (some ⟨i, off, none⟩)) v = wglb l i off size v l[i]? := by
 unfold wss
 cases hq : (Nat.beq v.cells.size size && !isJK v) with
 | false =>
  simp only [hq, cond_false]
  unfold wglb
  split
  ·simp only [hq, Bool.false_and, cond_false]
  ·rfl
 | true =>
  simp only [hq, cond_true]
  unfold wgf wkac
  rw [wvhb hl]
  rcases Nat.lt_or_ge i l.length with hi | hi
  ·have hk : wac i = true := wrg (by omega)
   have hi' : Nat.blt i l.length = true := by rw [nblt]; exact decide_eq_true hi
   cases hb : l[i]? with
   | none => rfl
   | some b =>
    cases b with
    | cells b =>
     simp only [rdX, wglb, hq, hi', Bool.true_and]
     cases h1 : rdOk b 0 (off + v.cells.toList.length) with
     | false => rfl
     | true =>
      simp only [cond_true, Bool.true_and, aver, Option.getD_none, hk, Bool.and_true]
      cases h2 : Nat.beq 0 b.top with
      | false => rfl
      | true =>
       cases h3 : Nat.ble b.frz off with
       | false => rfl
       | true =>
        simp only [Bool.and_self, cond_true, Bool.true_and]
        cases h4 : v.cells.toList.all oneCell with
        | false => rfl
        | true =>
         simp only [cond_true]
         rw [wfo _ _ _ hi]
         rfl
    | _ => rfl
  ·rw [List.getElem?_eq_none hi]
   rfl
theorem storeX_X {l : List ABlk} {i off size : Nat} {v : Value} {cs : List Value} {elem : TypeId} {frz : Nat} {pf : Bool} (hi : i < l.length) (hs : v.cells.size = size) (hj : isJK v = false) (h : off + size ≤ cs.length) (hf : frz ≤ off) (ho : v.cells.toList.all oneCell = true) :
  wglb l i off size v (some (X cs elem frz pf)) = .eff undef (HP (l.set i (X (wm cs off v.cells.toList) elem frz (pf && wqb v.cells.toList)))) := by
 have hlen : v.cells.toList.length = size := by rw [← hs]; simp
 unfold wglb
 simp only [hs, hj, ho, hlen, Nat.beq_refl, rdOk, CBlk.top, CBlk.lenAt, List.length_nil]
 rw [nblt, decide_eq_true hi, Nat.ble_eq_true_of_le hf, Nat.ble_eq_true_of_le h]
 rfl
theorem waxb {l : List Value} : (Array.mk l).toList = l := eq_of_heq HEq.rfl
theorem arr_size {l : List Value} : (Array.mk l).size = l.length := eq_of_heq HEq.rfl
theorem wjt {l : List Value} {n : Nat} (h : l.length = n) : slotsOf l 0 n = l := by
 subst h
 simp [slotsOf]
def resC : Option Value → Option (List Value) → Option (List Value)
 | some v, some l => some (v :: l)
 | _, _ => none
theorem resR_nil {H : AH} {e : Env} : resR H e [] = some [] := rfl
theorem wcec {H : AH} {e : Env} {x : CRes} {r : List CRes} : resR H e (x :: r) = resC (resA H e x) (resR H e r) := by
 simp only [resR]
 cases resA H e x <;> cases resR H e r <;> rfl
theorem wdec {v : Value} {l : List Value} : resC (some v) (some l) = some (v :: l) := rfl
theorem resA_tmp {H : AH} {e : Env} {t : Tmp} : resA H e (.tmp t) = some (e.get t) := rfl
theorem wbxb {H : AH} {e : Env} {t : Tmp} : resA H e (.cell1 t) = resV (wjn H (e.get t)) := rfl
theorem wcxb {H : AH} {e : Env} {t : Tmp} {n : Nat} : resA H e (.cellN t n) = resV (wgq H n (e.get t)) := rfl
theorem resV_val {v : Value} : resV (val v) = some v := rfl
theorem weec {v : Value} : resV (valO (some v)) = some v := rfl
theorem wfec {H : AH} {off : Nat} {cs : List Value} : wjn H (FP off cs) = valO cs[off]? := rfl
theorem wgec {H : AH} {off size : Nat} {cs : List Value} (h : off + size ≤ cs.length) : wgq H size (FP off cs) = val (.agg ⟨slotsOf cs off size⟩) := by
 show (bif Nat.ble (off + size) cs.length then val (.agg (slotsOf cs off size).toArray) else .none) = _
 rw [nble, decide_eq_true h]
 rfl
theorem len_FL {n : Nat} {cs : List Value} : wphb (FL n cs) = val (.int .i64 n) := rfl
theorem len_FO {t n : Nat} {cs : List Value} : wphb (FO t n cs) = val (.int .i64 n) := rfl
theorem whec {a : Option Addr} {n c : Nat} : wphb (.slice a n c) = val (.int .i64 n) := rfl
theorem wiec {size n : Nat} {cs : List Value} {k : IntKind} {i : Int} (h0 : 0 ≤ i) (h : i.toNat < n) : wxn size (FL n cs) (.int k i) = val (FP (i.toNat * size) cs) := by
 unfold wxn
 rw [wnq h0]
 show (bif Nat.blt i.toNat n then weo (Nat.mul i.toNat size) fun m => val (FP m cs) else .none) = _
 rw [nblt, decide_eq_true h, wrf]
 rfl
theorem wjec {size t n : Nat} {cs : List Value} {k : IntKind} {i : Int} (h0 : 0 ≤ i) (h : i.toNat < n) : wxn size (FO t n cs) (.int k i) = val (FP (i.toNat * size) cs) := by
 unfold wxn
 rw [wnq h0]
 show (bif Nat.blt i.toNat n then weo (Nat.mul i.toNat size) fun m => val (FP m cs) else .none) = _
 rw [nblt, decide_eq_true h, wrf]
 rfl
theorem idx1_agg {len size : Nat} {cs : List Value} {k : IntKind} {i : Int} (h0 : 0 ≤ i) (h : i.toNat < len) : wzib len size (.agg ⟨cs⟩) (.int k i) = valO cs[i.toNat * size]? := by
 unfold wzib
 rw [wnq h0]
 show (bif Nat.blt i.toNat len then wbab (i.toNat * size) (.agg ⟨cs⟩) else .none) = _
 rw [nblt, decide_eq_true h]
 rfl
theorem fld1_agg {off : Nat} {cs : List Value} : wbab off (.agg ⟨cs⟩) = valO cs[off]? := rfl
theorem wkec {i : Nat} {vs : List Value} : extA i (.tuple ⟨vs⟩) = valO vs[i]? := by
 show (match vs[i]? with | some v => val v | none => .none) = _
 cases vs[i]? <;> rfl
theorem wlec {a b : Value} : wcjb a b (.bool true) = val a := rfl
theorem wdxb {a b : Value} : wcjb a b (.bool false) = val b := rfl
theorem whlb {off : Nat} {a : Addr} : wts off (.pointer (some a)) = val (.pointer (some ⟨a.block, a.off + off, a.spot⟩)) := by
 show (weo (Nat.add a.off off) fun n => val (.pointer (some ⟨a.block, n, a.spot⟩))) = _
 rw [wrf]; rfl
theorem faddr_FP {off n : Nat} {cs : List Value} : wts off (FP n cs) = val (FP (n + off) cs) := by
 show (weo (Nat.add n off) fun n => val (FP n cs)) = _
 rw [wrf]; rfl
theorem wexb {len size : Nat} {a : Addr} {k : IntKind} {i : Int} (h0 : 0 ≤ i) (h : i.toNat < len) : wus len size (.pointer (some a)) (.int k i) = val (.pointer (some ⟨a.block, a.off + i.toNat * size, a.spot⟩)) := by
 unfold wus
 rw [wnq h0]
 show (bif Nat.blt i.toNat len then wts (Nat.mul i.toNat size) (.pointer (some a)) else .none) = _
 rw [nblt, decide_eq_true h, cond_true, whlb]
 rfl
theorem wmec {cs : List Value} : wyu cs [] = some cs := rfl
theorem wh {cs : List Value} {off size : Nat} {v : Value} {r : List (Nat × Nat × Value)} (h1 : v.cells.size = size) (h2 : off + size ≤ cs.length) (h3 : isJK v = false) : wyu cs ((off, size, v) :: r) = wyu (wm cs off v.cells.toList) r := by
 show (bif Nat.beq v.cells.size size && (Nat.ble (off + size) cs.length && !isJK v) then wyu (wm cs off v.cells.toList) r else none) = _
 rw [nbeq, decide_eq_true h1, nble, decide_eq_true h2, h3]
 rfl
theorem wilb {elem len fresh : Nat} {cs : List Value} : webb elem len fresh (some cs) = .simple (.slice (some ⟨fresh, 0, none⟩) len (len + 1)) (some (X cs elem 0 (wqb cs))) := rfl
theorem wwhb {cs : List Value} : wcu (some cs) = val (.agg ⟨cs⟩) := rfl
section
variable {cs : wad} {K : KR R} {d : Option Tmp} {l : List RO} {e : Env} {H : AH}
def wjlb (P : Program) (cs : wad) (K : KR R) (d : Option Tmp) (l : List RO) (e : Env) (H : AH) (wr : List Nat) (want : Bool) (r : ARes) (v : Value) : Option R := opsK (didG (wzv want v) (wdm cs wr H r) H) d e (opsR P cs K l)
def wrR (e : Env) : RI → List Nat
 | .ins i => wz e i
 | _ => []
theorem wfxb {g : Tmp} {want : Bool} {ri : RI} : opsR P cs K (⟨d, some (some g, want), ri⟩ :: l) e H = wjlb P cs K d l e H (wrR e ri) want (riA P e H ri) (e.get g) := by
 cases ri <;> rfl
theorem wgxb {wr : List Nat} {want b : Bool} {r : ARes} : wjlb P cs K d l e H wr want r (.bool b) = opsI P cs K d l e H wr (if b = want then r else val undef) := by
 cases b <;> cases want <;> rfl
theorem wnec {v : Value} : valO (some v) = val v := rfl
end
theorem woec (l : List UInt8) : (⟨⟨l⟩⟩ : ByteArray).toList = l := by rw [ByteArray.toList_eq]
theorem list_beq (a b : List UInt8) : (a == b) = decide (a = b) := by
 by_cases h : a = b
 ·simp [h]
 ·simp [h]
theorem str2_neq {a b : List UInt8} : wxkb .neq (str a) (str b) = val (.bool (decide (a ≠ b))) := by
 show valO (some (.bool (!((⟨⟨a⟩⟩ : ByteArray).toList == (⟨⟨b⟩⟩ : ByteArray).toList)))) = _
 rw [woec, woec, list_beq, decide_not]
 rfl
theorem wpec (a b : List UInt8) : (⟨⟨a⟩⟩ : ByteArray) ++ (⟨⟨b⟩⟩ : ByteArray) = (⟨⟨a ++ b⟩⟩ : ByteArray) := by
 apply ByteArray.ext
 rw [ByteArray.data_append]
 simp
theorem str2_add {a b : List UInt8} (h : a.length + b.length ≤ 9223372036854775807) : wxkb .add (str a) (str b) = val (str (a ++ b)) := by
 have h1 : ¬ (((⟨⟨a⟩⟩ : ByteArray).size + (⟨⟨b⟩⟩ : ByteArray).size : Nat) : Int) > IntKind.i64.max := by
  show ¬ ((a.length + b.length : Nat) : Int) > 9223372036854775807
  omega
 show valO (if _ then none else some (Value.string ((⟨⟨a⟩⟩ : ByteArray) ++ (⟨⟨b⟩⟩ : ByteArray)))) = _
 rw [if_neg h1, wpec]
 rfl
theorem sidx_str {l : List UInt8} {k : IntKind} {i : Int} (h0 : 0 ≤ i) (h : i.toNat < l.length) : wohb (str l) (.int k i) = val (.int .u8 ((l.getD i.toNat 0).toNat : Nat)) := by
 show (if 0 ≤ i then (match l[i.toNat]? with | some b => val (.int .u8 b.toNat) | none => .none) else .none) = _
 rw [if_pos h0, List.getD_eq_getElem?_getD, List.getElem?_eq_getElem h]
 rfl
theorem ssl_both {l : List UInt8} {j k : IntKind} {a b : Int} (h0 : 0 ≤ a) (h1 : a ≤ b) (h2 : b ≤ l.length) : sslV (str l) (some (.int j a)) (some (.int k b)) = val (str ((l.take b.toNat).drop a.toNat)) := by
 show (if 0 ≤ a ∧ a ≤ b ∧ b ≤ (l.length : Int) then _ else _) = _
 rw [if_pos ⟨h0, h1, h2⟩]
theorem ssl_lo {l : List UInt8} {j : IntKind} {a : Int} (h0 : 0 ≤ a) (h1 : a ≤ l.length) : sslV (str l) (some (.int j a)) none = val (str (l.drop a.toNat)) := by
 show (if 0 ≤ a ∧ a ≤ (l.length : Int) ∧ (l.length : Int) ≤ (l.length : Int) then val (str ((l.take (l.length : Int).toNat).drop a.toNat)) else _) = _
 rw [if_pos ⟨h0, h1, Int.le_refl _⟩, Int.toNat_natCast, List.take_length]
theorem wklb {size n c : Nat} {a : Addr} {k : IntKind} {i : Int} (h0 : 0 ≤ i) (h : i.toNat < n) : wxn size (.slice (some a) n c) (.int k i) = val (.pointer (some ⟨a.block, a.off + i.toNat * size, a.spot⟩)) := by
 unfold wxn
 rw [wnq h0]
 show (bif Nat.blt i.toNat n then weo (Nat.add a.off (Nat.mul i.toNat size)) fun n => val (.pointer (some ⟨a.block, n, a.spot⟩)) else .none) = _
 rw [nblt, decide_eq_true h, wrf]
 rfl
theorem wqec {ks : List AK} {xs ys : List Value} (h1 : wri ks xs = true) (h2 : wri ks ys = true) : eqcV true ks (.agg ⟨xs⟩) (.agg ⟨ys⟩) = val (.bool (!(eqL xs ys))) := by
 simp only [eqcV, h1, h2, Bool.and_self, if_true]
end
end Go.Den
namespace Go.Den
noncomputable section
variable {P : Program} {cfg : Cfg} {R : Type}
def tsz (P : Program) (t : TypeId) : Nat := match wdd P t with | some i => i.size | none => 0
inductive SlA (P : Program) (h : List ABlk) : List Value → List Value → Frs → Prop
 | nil : SlA P h [] [] []
 | cons {v v' : Value} {l l' : List Value} {fr : Frs} (hv : Sl 17 v v') (t : SlA P h l l' fr) : SlA P h (v :: l) (v' :: l') fr
 | row {i n c size : Nat} {cs : List Value} {elem : TypeId} {frz : Nat} {l l' : List Value} {fr : Frs} (hb : h[i]? = some (X cs elem frz true)) (hs : tsz P elem = size) (h0 : 0 < size) (hn : n + 1 ≤ c) (hl : (n + 1) * size ≤ cs.length) (hr : wqb (slotsOf cs 0 ((n + 1) * size)) = true) (t : SlA P h l l' fr) :
   SlA P h (.slice (some ⟨i, 0, none⟩) (n + 1) (c + 1) :: l) (FL (n + 1) (slotsOf cs 0 ((n + 1) * size)) :: l') ((i, (n + 1) * size) :: fr)
theorem wzx {h : List ABlk} {i : Nat} {b : ABlk} (e : h[i]? = some b) : i < h.length := by
 rcases Nat.lt_or_ge i h.length with h1 | h1
 ·exact h1
 ·rw [List.getElem?_eq_none h1] at e; cases e
theorem wrec {h : List ABlk} (hb' : h.length ≤ 1099511627774) {i n c size : Nat} {cs : List Value} {elem : TypeId} {frz : Nat} (hb : h[i]? = some (X cs elem frz true)) (hs : tsz P elem = size) (h0 : 0 < size) (hn : n + 1 ≤ c) (hl : (n + 1) * size ≤ cs.length) (hr : wqb (slotsOf cs 0 ((n + 1) * size)) = true)
  (sl : List Value → Option (List Value × Frs)) : wpg P (HP h) sl (.slice (some ⟨i, 0, none⟩) (n + 1) (c + 1)) = some (FL (n + 1) (slotsOf cs 0 ((n + 1) * size)), [(i, (n + 1) * size)]) := by
 show wyn P (HP h) sl ⟨i, 0, none⟩ (n + 1) (c + 1) = _
 unfold wyn
 rw [wyg h hb', hb]
 have he : wxh P { cells := cs, elem := elem, esz := 1, lens := [], wver := 0, frz := frz, mark := false, pf := true } = size := hs
 simp only [he]
 have h1 : wzgb (HP h) size (n + 1) ⟨i, 0, none⟩ (c + 1) = true := by
  show (Nat.ble (n + 1) c && Nat.blt 0 size) = true
  rw [Nat.ble_eq_true_of_le hn, nblt, decide_eq_true h0]; rfl
 have h2 : rdOk { cells := cs, elem := elem, esz := 1, lens := [], wver := 0, frz := frz, mark := false, pf := true } (aver ⟨i, 0, none⟩) (0 + (n + 1) * size) = true := by
  show (Nat.ble 0 0 && (Nat.ble 0 0 && Nat.ble (0 + (n + 1) * size) cs.length)) = true
  rw [Nat.zero_add, Nat.ble_eq_true_of_le hl]; rfl
 rw [h1, h2]
 simp only [Bool.and_self, cond_true, hr, show wac i = true from wrg (by have := wzx hb; omega), Nat.zero_add]
theorem SlA.sl {h : List ABlk} (hb : h.length ≤ 1099511627774) {a a' : List Value} {fr : Frs} (hs : SlA P h a a' fr) : whd P (HP h) 20 a = some (a', fr) ∧ wjf a' = [] ∧ ∀ m, wne m a' = a' := by
 induction hs with
 | nil => exact ⟨rfl, rfl, fun _ => rfl⟩
 | cons hv _ ih =>
  obtain ⟨h1, h2, h3⟩ := ih
  refine ⟨?_, by simp [wjf, hv.fz.refs, h2], fun m => by simp [wne, hv.fz.ren m, h3 m]⟩
  rw [wru P (HP h) 19, hv.sl P (HP h) 19 (by omega), h1]
  rfl
 | row hb1 hs h0 hn hl hr _ ih =>
  obtain ⟨h1, h2, h3⟩ := ih
  refine ⟨?_, by show _ ++ wjf _ = _; rw [h2]; rfl, fun m => by show _ :: wne m _ = _; rw [h3 m]; rfl⟩
  rw [wru P (HP h) 19, wrec hb hb1 hs h0 hn hl hr, h1]
  rfl
def frzAtB (n : Nat) : ABlk → ABlk
 | .cells b => .cells { b with frz := Nat.max b.frz n }
 | b => b
def wkt (h : List ABlk) : Frs → List ABlk
 | [] => h
 | (i, n) :: r => (match (wkt h r)[i]? with
  | some b => (wkt h r).set i (frzAtB n b)
  | none => wkt h r)
theorem wllb (h : List ABlk) (fr : Frs) : (wkt h fr).length = h.length := by
 induction fr with
 | nil => rfl
 | cons p r ih =>
  obtain ⟨i, n⟩ := p
  simp only [wkt]
  split
  ·rw [List.length_set, ih]
  ·exact ih
theorem raise_HP {h : List ABlk} (hb : h.length ≤ 1099511627774) (fr : Frs) : raise (HP h) fr = HP (wkt h fr) := by
 induction fr with
 | nil => rfl
 | cons p r ih =>
  obtain ⟨i, n⟩ := p
  show frz1 (raise (HP h) r) i n (wxjb n ((raise (HP h) r).get i)) = _
  rw [ih, wyg _ (by rw [wllb]; exact hb)]
  simp only [wkt]
  cases hq : (wkt h r)[i]? with
  | none => rfl
  | some b =>
   simp only
   have hi := wzx hq
   cases b with
   | cells c => show (HP (wkt h r)).set i (.cells _) = _; rw [wfo _ _ _ hi]; rfl
   | map es => show (HP (wkt h r)).set i (.map es) = _; rw [wfo _ _ _ hi]; rfl
   | tok a b c => show (HP (wkt h r)).set i (.tok a b c) = _; rw [wfo _ _ _ hi]; rfl
section
variable {cs : wad} {K : KR R} {d : Option Tmp} {l : List RO} {e : Env} {H : AH} {b : Array Nat} {k : Nat} {acc : List Ti}
def wgp (P : Program) (cs : wad) (b : Array Nat) (K : KR R) (d : Option Tmp) (ri : RI) (l : List RO) (k : Nat) (acc : List Ti) (e : Env) (H : AH) (wr : List Nat) (r : ARes) : Option R := wydb (wdm cs wr H r) ⟨d, none, ri⟩ k acc e H (wih P cs b K l)
theorem opsD_ins {i : Ins} : wih P cs b K (⟨d, none, .ins i⟩ :: l) k acc e H = wgp P cs b K d (.ins i) l k acc e H (wz e i) (insA P e H H.n i) := rfl
theorem wsec {op : BinOp} {j : IntKind} {x y : Operand} : wih P cs b K (⟨d, none, .int2 op j x y⟩ :: l) k acc e H = wgp P cs b K d (.int2 op j x y) l k acc e H [] (whm op j (evl e x) (evl e y)) := rfl
theorem wtec {j : IntKind} {x : Operand} : wih P cs b K (⟨d, none, .conv j x⟩ :: l) k acc e H = wgp P cs b K d (.conv j x) l k acc e H [] (wbpb j (evl e x)) := rfl
theorem opsD_un {op : UnOp} {x : Operand} : wih P cs b K (⟨d, none, .un op x⟩ :: l) k acc e H = wgp P cs b K d (.un op x) l k acc e H [] (unV op (evl e x)) := rfl
theorem wuec {op : BinOp} {x y : Operand} : wih P cs b K (⟨d, none, .str2 op x y⟩ :: l) k acc e H = wgp P cs b K d (.str2 op x y) l k acc e H [] (wxkb op (evl e x) (evl e y)) := rfl
theorem wvec {x y : Operand} : wih P cs b K (⟨d, none, .sidx x y⟩ :: l) k acc e H = wgp P cs b K d (.sidx x y) l k acc e H [] (wohb (evl e x) (evl e y)) := rfl
theorem wwec {x : Operand} : wih P cs b K (⟨d, none, .slen x⟩ :: l) k acc e H = wgp P cs b K d (.slen x) l k acc e H [] (wcpb (evl e x)) := rfl
theorem opsD_ssl {x : Operand} {lo hi : Option Operand} : wih P cs b K (⟨d, none, .ssl x lo hi⟩ :: l) k acc e H = wgp P cs b K d (.ssl x lo hi) l k acc e H [] (sslV (evl e x) (lo.map (evl e)) (hi.map (evl e))) := rfl
theorem wxec {x : Operand} : wih P cs b K (⟨d, none, .lenS x⟩ :: l) k acc e H = wgp P cs b K d (.lenS x) l k acc e H [] (wphb (evl e x)) := rfl
theorem opsD_slS {size : Nat} {x : Operand} {lo hi mx : Option Operand} : wih P cs b K (⟨d, none, .slS size x lo hi mx⟩ :: l) k acc e H = wgp P cs b K d (.slS size x lo hi mx) l k acc e H [] (slSR e H size (evl e x) lo hi mx) := rfl
theorem opsD_eqc {neg : Bool} {ks : List AK} {x y : Operand} : wih P cs b K (⟨d, none, .eqc neg ks x y⟩ :: l) k acc e H = wgp P cs b K d (.eqc neg ks x y) l k acc e H [] (eqcV neg ks (evl e x) (evl e y)) := rfl
theorem opsD_nil : wih P cs b K [] k acc e H = wop b acc K e H := rfl
theorem wyec {ri : RI} {wr : List Nat} {v : Value} : wgp P cs b K d ri l k acc e H wr (val v) = wih P cs b K l (k + 1) (⟨k, wu e ri, none⟩ :: acc) (e.put d v) H := rfl
theorem whxb {ri : RI} {wr : List Nat} {v : Value} : wgp P cs b K d ri l k acc e H wr (valO (some v)) = wih P cs b K l (k + 1) (⟨k, wu e ri, none⟩ :: acc) (e.put d v) H := rfl
theorem wzec {ri : RI} {wr : List Nat} {v : Value} {h : List ABlk} {x : ABlk} (hl : h.length ≤ 1099511627774) : wgp P cs b K d ri l k acc e (HP h) wr (.simple v (some x)) = wih P cs b K l (k + 1) (⟨k, h.length :: wu e ri, none⟩ :: acc) (e.put d v) (HP (h ++ [x])) := by
 show wydb (bif wac (HP h).n then Did.did v (some x) false ((HP h).push x) [] else Did.none) _ k acc e (HP h) (wih P cs b K l) = _
 rw [HP_n, wrg hl, wao]
 show wih P cs b K l (k + 1) (⟨k, (HP h).n :: wu e ri, none⟩ :: acc) _ _ = _
 rw [HP_n]
theorem wafc {ri : RI} {wr : List Nat} {v : Value} {h h' : List ABlk} (hl : h.length ≤ h'.length) : wgp P cs b K d ri l k acc e (HP h) wr (.eff v (HP h')) = wih P cs b K l (k + 1) (⟨k, [], some (wr, h.length, h'.length)⟩ :: acc) (e.put d v) (HP h') := by
 show wydb (bif Nat.ble (HP h).n (HP h').n then Did.did v .none true (HP h') wr else Did.none) _ k acc e (HP h) (wih P cs b K l) = _
 rw [HP_n, HP_n, Nat.ble_eq_true_of_le hl]
 show wih P cs b K l (k + 1) (⟨k, [], some (wr, (HP h).n, (HP h').n)⟩ :: acc) _ _ = _
 rw [HP_n, HP_n]
def opsDC (P : Program) (cs : wad) (b : Array Nat) (K : KR R) (d : Option Tmp) (ri : RI) (l : List RO) (k : Nat) (acc : List Ti) (e : Env) (H : AH) (x : Did) : Option R := wydb x ⟨d, none, ri⟩ k acc e H (wih P cs b K l)
theorem wixb {ri : RI} {wr : List Nat} {f : FuncId} {args : List Value} : wgp P cs b K d ri l k acc e H wr (.call f args) = opsDC P cs b K d ri l k acc e H (cs f args H) := rfl
theorem draw_end (h : (wrk b acc.reverse && wxo b acc) = true) : wop b acc K e H = K e H := by
 unfold wop
 rw [h]
 rfl
end
section
variable {cs : wad} {K : KR R} {d : Option Tmp} {l : List RO} {e : Env} {H : AH} {b : Array Nat} {k : Nat} {acc : List Ti}
def wjxb (P : Program) (cs : wad) (b : Array Nat) (K : KR R) (d : Option Tmp) (ri : RI) (l : List RO) (k : Nat) (acc : List Ti) (e : Env) (H : AH) (gs : Option Bool) : Option R := match didG gs (stepR P cs e H ri) H with
 | .did v nb eff H' wr => wih P cs b K l (k + 1) (tiR gs k ri e H nb eff H' wr acc) (e.put d v) H'
 | .none => none
theorem wkxb {g : Tmp} {want : Bool} {ri : RI} : wih P cs b K (⟨d, some (some g, want), ri⟩ :: l) k acc e H = wjxb P cs b K d ri l k acc e H (wzv want (e.get g)) := by
 show wydb (didG (wzv want (e.get g)) (stepR P cs e H ri) H) _ k acc e H (wih P cs b K l) = _
 unfold wjxb
 cases didG (wzv want (e.get g)) (stepR P cs e H ri) H <;> rfl
theorem wzsb {ri : RI} : wjxb P cs b K d ri l k acc e H (some true) = wih P cs b K (⟨d, none, ri⟩ :: l) k acc e H := by
 show _ = wydb (didG (some true) (stepR P cs e H ri) H) ⟨d, none, ri⟩ k acc e H (wih P cs b K l)
 unfold wjxb
 cases didG (some true) (stepR P cs e H ri) H <;> rfl
theorem wgfb {ri : RI} : wjxb P cs b K d ri l k acc e H (some false) = wih P cs b K l (k + 1) acc (e.put d undef) H := rfl
theorem gselV_tt : wzv true (.bool true) = some true := rfl
theorem gselV_tf : wzv true (.bool false) = some false := rfl
theorem gselV_ft : wzv false (.bool true) = some false := rfl
theorem gselV_ff : wzv false (.bool false) = some true := rfl
theorem opsD_eqb {neg : Bool} {x y : Operand} : wih P cs b K (⟨d, none, .eqb neg x y⟩ :: l) k acc e H = wgp P cs b K d (.eqb neg x y) l k acc e H [] (eqbV neg (evl e x) (evl e y)) := rfl
theorem opsD_mm {mx : Bool} {x : Operand} {r : List Operand} : wih P cs b K (⟨d, none, .mm mx x r⟩ :: l) k acc e H = wgp P cs b K d (.mm mx x r) l k acc e H [] (mmV mx (evl e x) (evls e r)) := rfl
theorem wlxb {op : BinOp} {x y : Operand} : wih P cs b K (⟨d, none, .shift op x y⟩ :: l) k acc e H = wgp P cs b K d (.shift op x y) l k acc e H [] (wlv op (evl e x) (evl e y)) := rfl
theorem wbfc {kt : Nat} {zero : Value} {ok : Bool} {m j : Operand} : wih P cs b K (⟨d, none, .look kt zero ok m j⟩ :: l) k acc e H = wgp P cs b K d (.look kt zero ok m j) l k acc e H [] (wykb P H kt zero ok (evl e m) (evl e j)) := rfl
theorem wcfc {x : Operand} : wih P cs b K (⟨d, none, .lenM x⟩ :: l) k acc e H = wgp P cs b K d (.lenM x) l k acc e H [] (wdpb H (evl e x)) := rfl
theorem opsD_b2s {x : Operand} : wih P cs b K (⟨d, none, .b2s x⟩ :: l) k acc e H = wgp P cs b K d (.b2s x) l k acc e H [] (b2sR H (evl e x)) := rfl
end
theorem ba_beq (a b : List UInt8) : ((⟨⟨a⟩⟩ : ByteArray) == (⟨⟨b⟩⟩ : ByteArray)) = decide (a = b) := by
 show ((⟨a⟩ : Array UInt8) == (⟨b⟩ : Array UInt8)) = _
 by_cases h : a = b
 ·subst h; simp
 ·simp [h]
def wdfc (P : Program) (kt : Nat) (zero : Value) (ok : Bool) (k : Value) : Option ABlk → ARes
 | some (.map es) => bif flat k then wwv ok zero (wls P es.isEmpty kt k es) else .none
 | _ => .none
theorem look_HP {h : List ABlk} (hl : h.length ≤ 1099511627774) {kt : Nat} {zero : Value} {ok : Bool} {r : Nat} {k : Value} : wykb P (HP h) kt zero ok (.map (some r)) k = wdfc P kt zero ok k h[r]? := by
 unfold wykb wdfc
 simp only [wyg h hl]
 cases h[r]? with
 | none => rfl
 | some b => cases b <;> rfl
def okV (ok : Bool) (zero : Value) : Option Value → Value
 | some v => okd ok v true
 | none => okd ok zero false
theorem okd_true {v : Value} {b : Bool} : okd true v b = .tuple ⟨[v, .bool b]⟩ := rfl
theorem wefc {v : Value} {b : Bool} : okd false v b = v := rfl
def updX (P : Program) (h : List ABlk) (r : Nat) (kt : Nat) (k x : Value) : Option ABlk → ARes
 | some (.map es) => bif flat k && Nat.blt r h.length then wdbb (HP h) r es k x (wls P false kt k es) else .none
 | _ => .none
theorem upd_HP {h : List ABlk} (hl : h.length ≤ 1099511627774) {kt : Nat} {r : Nat} {k x : Value} : updA P (HP h) kt (.map (some r)) k x = updX P h r kt k (flz x) h[r]? := by
 unfold updA wqub updX
 simp only [wyg h hl]
 rcases Nat.lt_or_ge r h.length with hr | hr
 ·cases h[r]? with
  | none => rfl
  | some b => cases b <;> first | rfl | (simp only [wrg (show r ≤ 1099511627774 by omega), nblt, decide_eq_true hr])
 ·rw [List.getElem?_eq_none hr]
theorem flz_int {k : IntKind} {x : Int} : flz (.int k x) = .int k x := rfl
theorem flz_bool {b : Bool} : flz (.bool b) = .bool b := rfl
theorem wmxb {b : ByteArray} : flz (.string b) = .string b := rfl
theorem flz_agg {c : Array Value} : flz (.agg c) = .agg c := rfl
theorem flz_nilS {n m : Nat} : flz (.slice none n m) = .slice none n m := rfl
theorem flz_ptr {p : Option Addr} : flz (.pointer p) = .pointer p := rfl
theorem flz_map {p : Option Nat} : flz (.map p) = .map p := rfl
theorem flz_FL {e : Nat} {vs : List Value} : flz (FL e vs) = FL e vs := rfl
def delX (P : Program) (h : List ABlk) (r : Nat) (kt : Nat) (k : Value) : Option ABlk → ARes
 | some (.map es) => bif flat k && Nat.blt r h.length then wjeb (HP h) r es (wls P es.isEmpty kt k es) else .none
 | _ => .none
theorem del_HP {h : List ABlk} (hl : h.length ≤ 1099511627774) {kt : Nat} {r : Nat} {k : Value} : delA P (HP h) kt (.map (some r)) k = delX P h r kt k h[r]? := by
 unfold delA delX
 simp only [wyg h hl]
 rcases Nat.lt_or_ge r h.length with hr | hr
 ·cases h[r]? with
  | none => rfl
  | some b => cases b <;> first | rfl | (simp only [wrg (show r ≤ 1099511627774 by omega), nblt, decide_eq_true hr])
 ·rw [List.getElem?_eq_none hr]
theorem okV_some {ok : Bool} {zero v : Value} : okV ok zero (some v) = okd ok v true := rfl
theorem okV_none {ok : Bool} {zero : Value} : okV ok zero none = okd ok zero false := rfl
end
end Go.Den
namespace Go.Den
noncomputable section
variable {P : Program} {cfg : Cfg} {R : Type}
open Classical in
def lim (P : Program) (cfg : Cfg) : Rec := fun t H => if h : ∃ r, Ev P cfg t H r then some h.choose else none
theorem Ev.same {t : Task} {H : AH} {r r' : Out × AH} (h : Ev P cfg t H r) (h' : Ev P cfg t H r') : r = r' := by
 obtain ⟨n, h⟩ := h
 obtain ⟨m, h'⟩ := h'
 have h1 : den P cfg (max n m) t H = some r := h (max n m) (Nat.le_max_left _ _)
 have h2 : den P cfg (max n m) t H = some r' := h' (max n m) (Nat.le_max_right _ _)
 rw [h1] at h2
 exact Option.some.inj h2
theorem wmlb {t : Task} {H : AH} {r : Out × AH} : lim P cfg t H = some r ↔ Ev P cfg t H r := by
 unfold lim
 constructor
 ·intro h
  split at h
  ·rename_i hx
   cases h
   exact hx.choose_spec
  ·cases h
 ·intro h
  have hx : ∃ r, Ev P cfg t H r := ⟨r, h⟩
  rw [dif_pos hx, hx.choose_spec.same h]
def Co (P : Program) (cfg : Cfg) (F : Rec → Option R) : Prop := ∀ r, F (lim P cfg) = some r → Evt P cfg F r
theorem Co.const (x : Option R) : Co P cfg (fun _ => x) := fun _ h => Evt.of fun _ => h
theorem Co.task (t : Task) (H : AH) : Co P cfg (fun rec => rec t H) := fun _ h => wmlb.1 h
theorem Co.bind {G : Rec → Option (Out × AH) → Option R} (t : Task) (H : AH) (h0 : ∀ rec, G rec none = none) (h : ∀ s, Co P cfg (fun rec => G rec (some s))) : Co P cfg (fun rec => G rec (rec t H)) := by
 intro r hr
 have hr0 : G (lim P cfg) (lim P cfg t H) = some r := hr
 cases hs : lim P cfg t H with
 | none => rw [hs, h0] at hr0; cases hr0
 | some s =>
  have hr' : G (lim P cfg) (some s) = some r := by rw [← hs]; exact hr0
  exact Evt.bind (A := fun rec => rec t H) (F := G) (wmlb.1 hs) (h s r hr')
section
variable {W : Rec → Did → Option R}
theorem Co.call1 (h0 : ∀ rec, W rec .none = none) (h : ∀ d, Co P cfg (fun rec => W rec d)) (f : FuncId) (H : AH) (s : Option (List Value × Frs)) : Co P cfg (fun rec => W rec (wsbb rec f H s)) := by
 cases s with
 | none => exact h .none
 | some q =>
  obtain ⟨a, fr⟩ := q
  show Co P cfg (fun rec => W rec (wrbb rec f H (raise H fr) fr a (wvh (raise H fr) 0 a)))
  cases wvh (raise H fr) 0 a with
  | none => exact h .none
  | some N => exact Co.bind (G := fun rec o => W rec (wzo H (raise H fr) fr N.L (wqg (raise H fr) (wjf a ++ wtb (raise H fr) N.L) 0 N.L 0) o)) (.call f (wne N.m a)) N.H (fun rec => h0 rec) (fun s => h _)
theorem Co.callS (h0 : ∀ rec, W rec .none = none) (h : ∀ d, Co P cfg (fun rec => W rec d)) (f : FuncId) (args : List Value) (H : AH) : Co P cfg (fun rec => W rec (callS P cfg rec f args H)) := by
 show Co P cfg (fun rec => W rec (wlf rec f H (bif (cfg.raw f).1 then some (args, []) else whd P H 20 args) (cfg.know f)))
 cases cfg.know f with
 | none => exact Co.call1 h0 h f H _
 | some g =>
  cases (bif (cfg.raw f).1 then some (args, []) else whd P H 20 args) with
  | none => exact h .none
  | some q =>
   obtain ⟨a, fr⟩ := q
   show Co P cfg (fun rec => W rec (callG rec f H a fr (g a)))
   cases g a with
   | some v => exact h _
   | none => exact Co.call1 h0 h f H (some (a, fr))
theorem Co.did (h0 : ∀ rec, W rec .none = none) (h : ∀ d, Co P cfg (fun rec => W rec d)) (wr : List Nat) (H : AH) (x : ARes) : Co P cfg (fun rec => W rec (wdm (Go.Den.callS P cfg rec) wr H x)) := by
 cases x with
 | none => exact h .none
 | simple v b => cases b <;> exact h _
 | eff v H' => exact h _
 | call f args => exact Co.callS h0 h f args H
theorem Co.stepR (h0 : ∀ rec, W rec .none = none) (h : ∀ d, Co P cfg (fun rec => W rec d)) (e : Env) (H : AH) (ri : RI) : Co P cfg (fun rec => W rec (Go.Den.stepR P (Go.Den.callS P cfg rec) e H ri)) := by
 cases ri with
 | ins i => exact Co.did h0 h (wz e i) H (insA P e H H.n i)
 | bad => exact h .none
 | _ => exact Co.did h0 h [] H _
end
theorem opsR_co : ∀ (l : List RO) (K : Rec → KR R) (e : Env) (H : AH), (∀ e H, Co P cfg (fun rec => K rec e H)) → Co P cfg (fun rec => opsR P (callS P cfg rec) (K rec) l e H) := by
 intro l
 induction l with
 | nil => intro K e H hK; exact hK e H
 | cons o l ih =>
  intro K e H hK
  show Co P cfg (fun rec => opsK (didG (gsel o.guard e) (stepR P (callS P cfg rec) e H o.ins) H) o.dst e (opsR P (callS P cfg rec) (K rec) l))
  cases gsel o.guard e with
  | none => exact Co.const none
  | some b =>
   cases b with
   | false => exact ih K _ _ hK
   | true =>
    refine Co.stepR (W := fun rec d => opsK d o.dst e (opsR P (callS P cfg rec) (K rec) l)) (fun _ => rfl) (fun d => ?_) e H o.ins
    cases d with
    | none => exact Co.const none
    | did v nb eff H' wr => exact ih K _ _ hK
theorem opsDR_co (before : Array Nat) : ∀ (l : List RO) (K : Rec → KR R) (i : Nat) (acc : List Ti) (e : Env) (H : AH), (∀ e H, Co P cfg (fun rec => K rec e H)) → Co P cfg (fun rec => wih P (callS P cfg rec) before (K rec) l i acc e H) := by
 intro l
 induction l with
 | nil =>
  intro K i acc e H hK
  show Co P cfg (fun rec => bif wrk before acc.reverse && wxo before acc then K rec e H else none)
  cases wrk before acc.reverse && wxo before acc with
  | true => exact hK e H
  | false => exact Co.const none
 | cons o l ih =>
  intro K i acc e H hK
  show Co P cfg (fun rec => wydb (didG (gsel o.guard e) (stepR P (callS P cfg rec) e H o.ins) H) o i acc e H (wih P (callS P cfg rec) before (K rec) l))
  cases gsel o.guard e with
  | none => exact Co.const none
  | some b =>
   cases b with
   | false => exact ih K _ _ _ _ hK
   | true =>
    refine Co.stepR (W := fun rec d => wydb d o i acc e H (wih P (callS P cfg rec) before (K rec) l)) (fun _ => rfl) (fun d => ?_) e H o.ins
    cases d with
    | none => exact Co.const none
    | did v nb eff H' wr => exact ih K _ _ _ _ hK
theorem watb {f : FuncId} {p : Nat} : ∀ (rc : RC) (K : Rec → KC R), (∀ x e H, Co P cfg (fun rec => K rec x e H)) → ∀ e H, Co P cfg (fun rec => wlj P cfg f p rec rc (K rec) e H) := by
 intro rc
 induction rc with
 | skip => intro K hK e H; exact hK _ _ _
 | ret => intro K hK e H; exact hK _ _ _
 | exit id => intro K hK e H; exact hK _ _ _
 | bad => intro K hK e H; exact Co.const none
 | ops l => intro K hK e H; exact opsR_co l (fun rec => K rec .normal) e H (hK .normal)
 | draw b l => intro K hK e H; exact opsDR_co b l (fun rec => K rec .normal) 0 [] e H (hK .normal)
 | seq a b iha ihb =>
  intro K hK e H
  refine iha (fun rec => seqK (wlj P cfg f p rec b (K rec)) (K rec)) (fun x e H => ?_) e H
  cases x with
  | normal => exact ihb K hK e H
  | _ => exact hK _ _ _
 | cond c a b iha ihb =>
  intro K hK e H
  show Co P cfg (fun rec => wekb (evl e c) (wlj P cfg f p rec a (K rec) e H) (wlj P cfg f p rec b (K rec) e H))
  cases evl e c with
  | bool q =>
   cases q with
   | true => exact iha K hK e H
   | false => exact ihb K hK e H
  | _ => exact Co.const none
 | block id a ih =>
  intro K hK e H
  refine ih (fun rec => wlx id (K rec)) (fun x e H => ?_) e H
  cases x with
  | exit j =>
   show Co P cfg (fun rec => bif Nat.beq j id then K rec .normal e H else K rec (.exit j) e H)
   cases Nat.beq j id with
   | true => exact hK _ _ _
   | false => exact hK _ _ _
  | _ => exact hK _ _ _
 | loop c =>
  intro K hK e H
  show Co P cfg (fun rec => wudb rec f p c e H (K rec) (cfg.live f (wnc c)))
  cases cfg.live f (wnc c) with
  | none =>
   refine Co.bind (G := fun rec o => wesb (K rec) o) (.loop f p c e) H (fun _ => rfl) (fun s => ?_)
   obtain ⟨o, H1⟩ := s
   cases o with
   | code x e1 => exact hK _ _ _
   | val v => exact Co.const none
  | some q =>
   obtain ⟨ins, outs, k⟩ := q
   show Co P cfg (fun rec => bif lvOk e.n ins && lvOk e.n outs then wpob rec f p c e.n e.g ins outs k (evs e ins) (K rec) (wvh H p (evs e ins)) else none)
   cases lvOk e.n ins && lvOk e.n outs with
   | false => exact Co.const none
   | true =>
    show Co P cfg (fun rec => wpob rec f p c e.n e.g ins outs k (evs e ins) (K rec) (wvh H p (evs e ins)))
    cases wvh H p (evs e ins) with
    | none => exact Co.const none
    | some N =>
     refine Co.bind (G := fun rec o => wtbc e.n e.g outs k (K rec) o) (.loop f p c (envL e.n e.g ins (wne N.m (evs e ins)))) N.H (fun _ => rfl) (fun s => ?_)
     obtain ⟨o, H1⟩ := s
     cases o with
     | val v => exact Co.const none
     | code x e1 =>
      show Co P cfg (fun rec => bif Nat.beq k 999999 then K rec x (envL e.n e.g outs (evs e1 outs)) H1 else (bif Nat.beq H1.n k && wac k then K rec x (envL e.n e.g outs (evs e1 outs)) (wem (wtdb H1 0 k) AH0) else none))
      cases Nat.beq k 999999 with
      | true => exact hK _ _ _
      | false =>
       show Co P cfg (fun rec => bif Nat.beq H1.n k && wac k then K rec x (envL e.n e.g outs (evs e1 outs)) (wem (wtdb H1 0 k) AH0) else none)
       cases Nat.beq H1.n k && wac k with
       | true => exact hK _ _ _
       | false => exact Co.const none
theorem wffc {f : FuncId} {p : Nat} {c : Code} (lv : Option (List Tmp × List Tmp × Nat)) (x : AExit) (e : Env) (H : AH) : Co P cfg (fun rec => wap rec f p c lv x e H) := by
 cases lv with
 | none => cases x <;> first | exact Co.task _ _ | exact Co.const _
 | some q =>
  obtain ⟨ins, outs, k⟩ := q
  show Co P cfg (fun rec => bif lvOk e.n ins && lvOk e.n outs then wul ins outs e.n e.g rec f p c x e H else none)
  cases lvOk e.n ins && lvOk e.n outs with
  | false => exact Co.const none
  | true =>
   show Co P cfg (fun rec => wul ins outs e.n e.g rec f p c x e H)
   cases x with
   | normal =>
    unfold wul
    simp only
    cases wvh H p (evs e ins) with
    | none => exact Co.const none
    | some N => exact Co.task _ _
   | _ =>
    unfold wul
    exact Co.const _
theorem wkb (hc : PlainA cfg) {f : FuncId} {F : RF} (hF : trF P f = some F) {args : List Value} {h : List ABlk} {r : Out × AH} (ha : args.length ≤ F.n) (hn : F.n ≤ 1099511627774)
  (h1 : wlj P cfg f h.length (lim P cfg) F.code (retR P (cfg.raw f).2 h.length F.res) (SE (E0 F.n (cfg.glob, cfg.own f)) (argl args 0 [])) (HP h) = some r) : lim P cfg (.call f args) (HP h) = some r := by
 refine wmlb.2 (Ev.step ?_)
 have h2 := watb (P := P) (cfg := cfg) (f := f) (p := h.length) F.code (fun _ => retR P (cfg.raw f).2 h.length F.res) (fun _ _ _ => Co.const _) _ _ r h1
 refine h2.mono fun rec h3 => ?_
 refine call_ok hF ha hn ?_
 have h4 : (⟨F.n, wygb args 0 .leaf, (cfg.glob, cfg.own f)⟩ : Env) = SE (E0 F.n (cfg.glob, cfg.own f)) (argl args 0 []) := argl_env F.n _ args 0 [] .leaf (by omega) rfl
 rw [h4, HP_n]
 exact h3
theorem web {f : FuncId} {p : Nat} {c : Code} {rc : RC} (hrc : trC P c = rc) {e : Env} {H : AH} {r : Out × AH} (h1 : wlj P cfg f p (lim P cfg) rc (wap (lim P cfg) f p c (cfg.live f (wnc c))) e H = some r) : lim P cfg (.loop f p c e) H = some r := by
 refine wmlb.2 (Ev.step ?_)
 have h2 := watb (P := P) (cfg := cfg) (f := f) (p := p) rc (fun rec => wap rec f p c (cfg.live f (wnc c))) (fun x e H => wffc _ x e H) _ _ r h1
 exact h2.mono fun rec h3 => wbdc hrc h3
end
end Go.Den
namespace Go.Den
noncomputable section
variable {P : Program} {cfg : Cfg} {R : Type}
def wmr : Value → Bool
 | .int _ _ | .bool _ | .string _ | .float _ _ | .complex _ _ _ | .nilFunc | .nilIface | .pointer none | .map none => true
 | .func (.yield _) ⟨_⟩ ⟨[]⟩ => true
 | .func (.yield _) ⟨_⟩ ⟨[.bool true]⟩ => true
 | _ => false
def wai : List Value → Bool
 | [] => true
 | v :: r => wmr v && wai r
theorem wgfc : wai [] = true := rfl
theorem wfz {v : Value} {r : List Value} : wai (v :: r) = (wmr v && wai r) := rfl
theorem wnlb {a b : List Value} : wai (a ++ b) = (wai a && wai b) := by
 induction a with
 | nil => rfl
 | cons v r ih => simp only [List.cons_append, wai, ih, Bool.and_assoc]
theorem whfc {l : List Value} : wai l = true ↔ ∀ v ∈ l, wmr v = true := by
 induction l with
 | nil => simp [wai]
 | cons a l ih => simp [wai, ih]
theorem atom_int {k : IntKind} {n : Int} : wmr (.int k n) = true := rfl
theorem wifc {b : Bool} : wmr (.bool b) = true := rfl
theorem wvpb {s : ByteArray} : wmr (.string s) = true := rfl
theorem atom_FL {n : Nat} {cs : List Value} : wmr (FL n cs) = true := rfl
theorem atom_FP {n : Nat} {cs : List Value} : wmr (FP n cs) = true := rfl
theorem wjfc : wmr (.pointer none) = true := rfl
theorem wkfc : wmr .nilFunc = true := rfl
theorem wlfc : wmr .nilIface = true := rfl
structure AtomOk (v : Value) : Prop where
 refs : refs v = []
 toks : toks v = []
 no : wmf v = true
 ren : ∀ m, renV m v = v
 sld : ∀ (P : Program) (H : AH) (sl : List Value → Option (List Value × Frs)), wpg P H sl v = some (v, [])
 one : oneCell v = true
 nf : nfV v = v
 jk : isJK v = false
 cells : v.cells = ⟨[v]⟩
theorem wbo {v : Value} (h : wmr v = true) : AtomOk v := by
 unfold wmr at h
 split at h <;> first
  | exact ⟨rfl, rfl, rfl, fun _ => rfl, fun _ _ _ => rfl, rfl, rfl, rfl, rfl⟩
  | (exact ⟨rfl, rfl, rfl, fun _ => rfl, fun _ _ _ => rfl, wffb, rfl, wopb, rfl⟩)
  | (refine ⟨rfl, rfl, rfl, fun _ => rfl, fun _ _ _ => rfl, ?_, rfl, ?_, rfl⟩ <;> first | rfl | (unfold isJK; split <;> simp_all) | (exact wez (fun _ h => by cases h) (fun _ h => by cases h) (by unfold isJK; split <;> simp_all)))
  | cases h
theorem wnxb {l : List Value} (h : wai l = true) : wjf l = [] := by
 induction l with
 | nil => rfl
 | cons v r ih => simp only [wai, Bool.and_eq_true] at h; simp only [wjf, (wbo h.1).refs, ih h.2, List.append_nil]
theorem woxb {l : List Value} (h : wai l = true) : wxp l = [] := by
 induction l with
 | nil => rfl
 | cons v r ih => simp only [wai, Bool.and_eq_true] at h; simp only [wxp, (wbo h.1).toks, ih h.2, List.append_nil]
theorem wqn {l : List Value} (h : wai l = true) : wqb l = true := by
 induction l with
 | nil => rfl
 | cons v r ih => simp only [wai, Bool.and_eq_true] at h; simp only [wqb, (wbo h.1).no, ih h.2, Bool.and_self]
theorem whfb {l : List Value} (h : wai l = true) {m : Nm} : wne m l = l := by
 induction l with
 | nil => rfl
 | cons v r ih => simp only [wai, Bool.and_eq_true] at h; simp only [wne, (wbo h.1).ren, ih h.2]
theorem wpxb {l : List Value} (h : wai l = true) {H : AH} {d : Nat} : whd P H (d + 1) l = some (l, []) := by
 induction l with
 | nil => rfl
 | cons v r ih => simp only [wai, Bool.and_eq_true] at h; rw [wru, (wbo h.1).sld, ih h.2]; rfl
theorem wlt {l : List Value} (h : wai l = true) : l.all oneCell = true := by
 induction l with
 | nil => rfl
 | cons v r ih => simp only [wai, Bool.and_eq_true] at h; simp only [List.all_cons, (wbo h.1).one, ih h.2, Bool.and_self]
theorem wxhb {l : List Value} (h : wai l = true) : nfL l = l := by
 induction l with
 | nil => rfl
 | cons v r ih => simp only [wai, Bool.and_eq_true] at h; simp only [nfL, (wbo h.1).nf, ih h.2]
theorem wqxb {H : AH} {d : Nat} : whd P H (d + 1) [] = some ([], []) := rfl
theorem wwpb {H : AH} {d : Nat} {v : Value} {l : List Value} : whd P H (d + 1) (v :: l) = weab (one2 (wpg P H (whd P H d) v)) (whd P H (d + 1) l) := rfl
theorem wrxb {a b : List Value} {f g : Frs} : weab (some (a, f)) (some (b, g)) = some (a ++ b, f ++ g) := rfl
theorem wmfc {v : Value} {f : Frs} : one2 (some (v, f)) = some ([v], f) := rfl
section
variable {H : AH} {sl : List Value → Option (List Value × Frs)}
theorem seal_int {k : IntKind} {n : Int} : wpg P H sl (.int k n) = some (.int k n, []) := rfl
theorem wnfc {b : Bool} : wpg P H sl (.bool b) = some (.bool b, []) := rfl
theorem wxpb {s : ByteArray} : wpg P H sl (.string s) = some (.string s, []) := rfl
theorem wolb {k : FloatKind} {a b : Nat} : wpg P H sl (.complex k a b) = some (.complex k a b, []) := rfl
theorem seal_FL {n : Nat} {cs : List Value} : wpg P H sl (FL n cs) = some (FL n cs, []) := rfl
theorem seal_FO {t n : Nat} {cs : List Value} : wpg P H sl (FO t n cs) = some (FL n cs, []) := rfl
theorem seal_FP {n : Nat} {cs : List Value} : wpg P H sl (FP n cs) = some (FP n cs, []) := rfl
theorem wofc : wpg P H sl (.slice none 0 0) = some (FL 0 [], []) := rfl
theorem seal_noS {a : Addr} {c : Nat} : wpg P H sl (.slice (some a) 0 c) = some (FL 0 [], []) := rfl
theorem seal_ptr {a : Option Addr} : wpg P H sl (.pointer a) = some (.pointer a, []) := rfl
theorem seal_map {a : Option Nat} : wpg P H sl (.map a) = some (.map a, []) := rfl
theorem wpfc : wpg P H sl .nilFunc = some (.nilFunc, []) := rfl
theorem wqfc : wpg P H sl .nilIface = some (.nilIface, []) := rfl
def aggO : Option (List Value × Frs) → Option (Value × Frs)
 | some (l, f) => some (.agg ⟨l⟩, f)
 | none => none
def tupO : Option (List Value × Frs) → Option (Value × Frs)
 | some (l, f) => some (.tuple ⟨l⟩, f)
 | none => none
def funO (g : FuncId) : Option (List Value × Frs) → Option (List Value × Frs) → Option (Value × Frs)
 | some (a, p), some (b, q) => some (.func (.func g) ⟨a⟩ ⟨b⟩, p ++ q)
 | _, _ => none
theorem seal_agg {cs : List Value} : wpg P H sl (.agg ⟨cs⟩) = aggO (sl cs) := rfl
theorem wsxb {cs : List Value} : wpg P H sl (.tuple ⟨cs⟩) = tupO (sl cs) := rfl
theorem wrfc {g : FuncId} {f c : List Value} : wpg P H sl (.func (.func g) ⟨f⟩ ⟨c⟩) = funO g (sl f) (sl c) := by
 show (match sl f, sl c with | some (a, p), some (b, q) => some (Value.func (.func g) ⟨a⟩ ⟨b⟩, p ++ q) | _, _ => none) = _
 cases sl f <;> cases sl c <;> rfl
theorem wsfc {l : List Value} {f : Frs} : aggO (some (l, f)) = some (.agg ⟨l⟩, f) := rfl
theorem wtfc {l : List Value} {f : Frs} : tupO (some (l, f)) = some (.tuple ⟨l⟩, f) := rfl
theorem wufc {g : FuncId} {a b : List Value} {p q : Frs} : funO g (some (a, p)) (some (b, q)) = some (.func (.func g) ⟨a⟩ ⟨b⟩, p ++ q) := rfl
end
def rowS (P : Program) (i n c : Nat) : Option ABlk → Option (Value × Frs)
 | some (.cells b) => bif Nat.ble n c && (isNil b.lens && (b.pf && (Nat.blt 0 (tsz P b.elem) && Nat.ble (n * tsz P b.elem) b.cells.length))) then (bif wqb (slotsOf b.cells 0 (n * tsz P b.elem)) then some (FL n (slotsOf b.cells 0 (n * tsz P b.elem)), [(i, n * tsz P b.elem)]) else none) else none
 | _ => none
theorem rowS_X {i n c : Nat} {cs : List Value} {elem : TypeId} {frz : Nat} : rowS P i n c (some (X cs elem frz true)) = bif Nat.ble n c && (Nat.blt 0 (tsz P elem) && Nat.ble (n * tsz P elem) cs.length) then (bif wqb (slotsOf cs 0 (n * tsz P elem)) then some (FL n (slotsOf cs 0 (n * tsz P elem)), [(i, n * tsz P elem)]) else none) else none := rfl
def EJ (n : Nat) (g : (Nat → Option (List Value)) × Bool) : Env := ⟨n, wpvb n .leaf, g⟩
theorem EJ_n {n : Nat} {g : (Nat → Option (List Value)) × Bool} : (EJ n g).n = n := rfl
theorem EJ_g {n : Nat} {g : (Nat → Option (List Value)) × Bool} : (EJ n g).g = g := rfl
def lkE (b : Env) : List (Nat × Value) → Nat → Value
 | [], j => b.get j
 | (k, v) :: l, j => if j = k then (if k < b.n then v else lkE b l j) else lkE b l j
theorem lkE_nil {b : Env} {j : Nat} : lkE b [] j = b.get j := rfl
def lkH (q : Bool) (v : Value) (b : Env) (l : List (Nat × Value)) (j : Nat) : Value := bif q then v else lkE b l j
def lkB (q : Bool) (k : Nat) (v : Value) (b : Env) (l : List (Nat × Value)) (j : Nat) : Value := bif q then lkH (Nat.blt k b.n) v b l j else lkE b l j
theorem lkE_cons {b : Env} {k j : Nat} {v : Value} {l : List (Nat × Value)} : lkE b ((k, v) :: l) j = lkB (Nat.beq j k) k v b l j := by
 rw [nbeq]
 show (if j = k then (if k < b.n then v else lkE b l j) else lkE b l j) = (bif decide (j = k) then (bif Nat.blt k b.n then v else lkE b l j) else lkE b l j)
 rw [nblt]
 by_cases h1 : j = k <;> by_cases h2 : k < b.n <;> simp [h1, h2]
theorem lkB_true {k j : Nat} {v : Value} {b : Env} {l : List (Nat × Value)} : lkB true k v b l j = lkH (Nat.blt k b.n) v b l j := rfl
theorem wvfc {k j : Nat} {v : Value} {b : Env} {l : List (Nat × Value)} : lkB false k v b l j = lkE b l j := rfl
theorem lkH_true {j : Nat} {v : Value} {b : Env} {l : List (Nat × Value)} : lkH true v b l j = v := rfl
theorem wwfc {b : Env} {l : List (Nat × Value)} {j : Nat} (hn : b.n ≤ 1099511627774) : (SE b l).get j = lkE b l j := by
 induction l with
 | nil => rfl
 | cons p l ih =>
  obtain ⟨k, v⟩ := p
  show ((SE b l).put (some k) v).get j = (if j = k then (if k < b.n then v else lkE b l j) else lkE b l j)
  rw [whpb _ _ _ (by rw [SE_n]; exact hn), SE_n, ← ih]
  by_cases h1 : j = k <;> by_cases h2 : k < b.n <;> simp [h1, h2]
theorem look_E0 {n : Nat} {g : (Nat → Option (List Value)) × Bool} {l : List (Nat × Value)} {j : Nat} (hn : n ≤ 1099511627774) : (SE (E0 n g) l).get j = lkE (E0 n g) l j := wwfc hn
theorem look_EJ {n : Nat} {g : (Nat → Option (List Value)) × Bool} {l : List (Nat × Value)} {j : Nat} (hn : n ≤ 1099511627774) : (SE (EJ n g) l).get j = lkE (EJ n g) l j := wwfc hn
def zipR : List Nat → List Value → List (Nat × Value) → List (Nat × Value)
 | k :: r, v :: s, acc => zipR r s ((k, v) :: acc)
 | _, _, acc => acc
theorem zipR_nil {acc : List (Nat × Value)} : zipR [] [] acc = acc := rfl
theorem wxfc {k : Nat} {v : Value} {r : List Nat} {s : List Value} {acc : List (Nat × Value)} : zipR (k :: r) (v :: s) acc = zipR r s ((k, v) :: acc) := rfl
theorem envL_SE0 {n : Nat} {g : (Nat → Option (List Value)) × Bool} : ∀ (lv : List Nat) (vs : List Value) (t : T Value) (acc : List (Nat × Value)), lvOk n lv = true → SE (EJ n g) acc = ⟨n, t, g⟩ → (⟨n, putL lv vs t, g⟩ : Env) = SE (EJ n g) (zipR lv vs acc) := by
 intro lv
 induction lv with
 | nil => intro vs t acc _ h; cases vs <;> exact h.symm
 | cons k r ih =>
  intro vs t acc hk h
  cases vs with
  | nil => exact h.symm
  | cons v s =>
   simp only [lvOk, List.all_cons, Bool.and_eq_true] at hk
   refine ih s _ _ hk.2 ?_
   show (SE (EJ n g) acc).put (some k) v = _
   rw [h]
   show (bif Nat.blt k n then (⟨n, T.put v 40 t k, g⟩ : Env) else ⟨n, t, g⟩) = _
   rw [hk.1, cond_true]
theorem envL_SE {n : Nat} {g : (Nat → Option (List Value)) × Bool} {lv : List Nat} {vs : List Value} (h : lvOk n lv = true) : envL n g lv vs = SE (EJ n g) (zipR lv vs []) := envL_SE0 lv vs _ [] h rfl
theorem lvOk_nil {n : Nat} : lvOk n [] = true := rfl
theorem wyfc {n k : Nat} {r : List Nat} : lvOk n (k :: r) = (decide (k < n) && lvOk n r) := by
 show (Nat.blt k n && _) = _
 rw [nblt]; rfl
theorem evs_nil {e : Env} : evs e [] = [] := rfl
theorem evs_cons {e : Env} {k : Nat} {r : List Nat} : evs e (k :: r) = e.get k :: evs e r := rfl
def wnv : ABlk → Bool
 | .cells b => isNil b.lens
 | _ => true
def cloL (h : List ABlk) : Nat → List Nat → List Nat → Option (List Nat)
 | 0, _, _ => none
 | _ + 1, done, [] => some done
 | d + 1, done, id :: r => bif memN id done then cloL h d done r else cloL h d (done ++ [id]) (r ++ (wzu h[id]?).map (·.1))
theorem cloL_ok {h : List ABlk} (hh : h.length ≤ 1099511627774) : ∀ (d : Nat) (done todo L : List Nat), cloL h d done todo = some L → ∀ D, d ≤ D → clo (HP h) D done todo = some L := by
 intro d
 induction d with
 | zero => intro done todo L h1; cases h1
 | succ d ih =>
  intro done todo L h1 D hD
  obtain ⟨D, rfl⟩ : ∃ D', D = D' + 1 := ⟨D - 1, by omega⟩
  cases todo with
  | nil => exact h1
  | cons id r =>
   show (bif memN id done then clo (HP h) D done r else clo (HP h) D (done ++ [id]) (r ++ (wzu ((HP h).get id)).map (·.1))) = some L
   rw [wyg h hh]
   simp only [cloL] at h1
   cases hm : memN id done with
   | true => rw [hm, cond_true] at h1; rw [cond_true]; exact ih _ _ _ h1 D (by omega)
   | false => rw [hm, cond_false] at h1; rw [cond_false]; exact ih _ _ _ h1 D (by omega)
theorem cloL_nil {h : List ABlk} {d : Nat} {done : List Nat} : cloL h (d + 1) done [] = some done := rfl
def cloB (q : Bool) (h : List ABlk) (d id : Nat) (done r : List Nat) : Option (List Nat) := bif q then cloL h d done r else cloL h d (done ++ [id]) (r ++ (wzu h[id]?).map (·.1))
theorem wzfc {h : List ABlk} {d id : Nat} {done r : List Nat} : cloL h (d + 1) done (id :: r) = cloB (memN id done) h d id done r := rfl
theorem wagc {h : List ABlk} {d id : Nat} {done r : List Nat} : cloB true h d id done r = cloL h d done r := rfl
theorem wtxb {h : List ABlk} {d id : Nat} {done r : List Nat} : cloB false h d id done r = cloL h d (done ++ [id]) (r ++ (wzu h[id]?).map (·.1)) := rfl
theorem memN_nil {n : Nat} : memN n [] = false := rfl
theorem wbgc {n a : Nat} {r : List Nat} : memN n (a :: r) = (decide (a = n) || memN n r) := by
 show (bif Nat.beq a n then true else memN n r) = _
 rw [nbeq]; cases decide (a = n) <;> rfl
def normX (h : List ABlk) (p : Nat) (vs : List Value) : Option (List Nat) → Option Nrm
 | some L => wrdb (HP h) p vs (some L)
 | none => wvh (HP h) p vs
theorem normA_X {h : List ABlk} (hh : h.length ≤ 1099511627774) {p : Nat} {vs : List Value} : wvh (HP h) p vs = normX h p vs (cloL h 60 [] (upto p ++ (wjf vs).map (·.1))) := by
 cases hc : cloL h 60 [] (upto p ++ (wjf vs).map (·.1)) with
 | none => rfl
 | some L =>
  show wrdb (HP h) p vs (clo (HP h) 100000 [] (upto p ++ (wjf vs).map (·.1))) = _
  rw [cloL_ok hh 60 _ _ _ hc 100000 (by omega)]
  rfl
def nm1 (L : List Nat) : Nm := fun id ver => (idxOf id L 0, ver)
def wos (m : Nm) : ABlk → ABlk
 | .cells b => .cells { b with cells := (bif b.pf then b.cells else wne m b.cells) }
 | .map es => .map (renM m es)
 | .tok a b c => .tok a b c
def renO (m : Nm) : Option ABlk → ABlk
 | some b => wos m b
 | none => .map []
def wypb (h : List ABlk) (m : Nm) : List Nat → List ABlk
 | [] => []
 | id :: r => renO m h[id]? :: wypb h m r
def hasL (h : List ABlk) : List Nat → Bool
 | [] => true
 | id :: r => (h[id]?).isSome && hasL h r
def whab (h : List ABlk) : List Nat → List (Nat × Nat)
 | [] => []
 | id :: r => wzu h[id]? ++ whab h r
theorem wnr {h : List ABlk} (hh : h.length ≤ 1099511627774) (L : List Nat) : wtb (HP h) L = whab h L := by
 induction L with
 | nil => rfl
 | cons id r ih => simp only [wtb, whab, wyg h hh, ih]
theorem wplb {h : List ABlk} (he : h.all wnv = true) (id : Nat) : isOpen h[id]? = false := by
 cases hq : h[id]? with
 | none => rfl
 | some b =>
  have := (List.all_eq_true.1 he) b (List.mem_of_getElem? hq)
  cases b with
  | cells c =>
   show (match c.lens with | [] => false | _ => true) = false
   have h1 : isNil c.lens = true := this
   cases hl : c.lens with
   | nil => rfl
   | cons a r => rw [hl] at h1; cases h1
  | _ => rfl
theorem wcgc {h : List ABlk} (hh : h.length ≤ 1099511627774) (he : h.all wnv = true) (rs : List (Nat × Nat)) (p : Nat) : ∀ (L : List Nat) (ix : Nat), wqg (HP h) rs p L ix = L.map fun id => (id, false) := by
 intro L
 induction L with
 | nil => intro ix; rfl
 | cons id r ih =>
  intro ix
  have : wxy (HP h) rs p ix id = false := by
   unfold wxy
   rw [wyg h hh, wplb he]
   simp
  simp only [wqg, this, ih, List.map_cons]
theorem wbtb (n : Nat) : ∀ (L : List Nat), wgh n (L.map fun id => (id, false)) = false := by
 intro L
 induction L with
 | nil => rfl
 | cons id r ih =>
  show (bif Nat.beq id n then false else wgh n (r.map fun id => (id, false))) = false
  rw [ih]; cases Nat.beq id n <;> rfl
theorem renB_no (m : Nm) (b : ABlk) : renB m false (some b) = some (wos m b) := by cases b <;> rfl
theorem wqlb (l l0 : List ABlk) : wem (l.map some) (HP l0) = HP (l0 ++ l) := by
 induction l generalizing l0 with
 | nil => simp [wem]
 | cons b l ih =>
  show wem (l.map some) ((HP l0).push b) = _
  rw [wao, ih, List.append_assoc]
  rfl
theorem renBs_X {h : List ABlk} (hh : h.length ≤ 1099511627774) (m : Nm) : ∀ (L : List Nat), hasL h L = true → wjq (HP h) m (L.map fun id => (id, false)) = (wypb h m L).map some := by
 intro L
 induction L with
 | nil => intro _; rfl
 | cons id r ih =>
  intro hq
  simp only [hasL, Bool.and_eq_true] at hq
  simp only [List.map_cons, wjq, wypb, ih hq.2, wyg h hh]
  cases hb : h[id]? with
  | none => rw [hb] at hq; cases hq.1
  | some b => rw [renB_no]; rfl
theorem wctb {h : List ABlk} (hh : h.length ≤ 1099511627774) (L : List Nat) : hasAll (HP h) L = hasL h L := by
 induction L with
 | nil => rfl
 | cons id r ih => simp only [hasAll, hasL, wyg h hh, ih]
theorem wuxb {h : List ABlk} (hh : h.length ≤ 1099511627774) (he : h.all wnv = true) {p : Nat} {vs : List Value} {L : List Nat} (h1 : (wkx L && (pins p L 0 && (hasL h L && (wiv L (wjf vs ++ whab h L) && wac L.length)))) = true) :
  normX h p vs (some L) = some ⟨L, nm1 L, HP (wypb h (nm1 L) L)⟩ := by
 show wrdb (HP h) p vs (some L) = _
 simp only [Bool.and_eq_true] at h1
 obtain ⟨a1, a2, a3, a4, a5⟩ := h1
 unfold wrdb
 simp only []
 rw [wcgc hh he, wnr hh, wctb hh, a1, a2, a3, a4, a5]
 have ht : ∀ ts : List Nat, wsz (L.map fun id => (id, false)) ts = true := by
  intro ts
  simp [wsz, wbtb]
 have hm : nmOf L (L.map fun id => (id, false)) = nm1 L := by
  funext id ver
  simp only [nmOf, wbtb, nm1, cond_false]
 simp only [ht, Bool.and_self, cond_true, hm]
 rw [renBs_X hh _ _ a3]
 congr 2
 exact wqlb _ []
theorem wdgc : wkx [] = true := rfl
theorem wvxb {a : Nat} {r : List Nat} : wkx (a :: r) = (!(memN a r) && wkx r) := rfl
theorem pins_nil {p i : Nat} : pins p [] i = decide (p ≤ i) := nble p i
theorem wegc {p i a : Nat} {r : List Nat} : pins p (a :: r) i = bif decide (i < p) then decide (a = i) && pins p r (i + 1) else true := by
 show (bif Nat.blt i p then Nat.beq a i && pins p r (i + 1) else true) = _
 rw [nblt, nbeq]
theorem hasL_nil {h : List ABlk} : hasL h [] = true := rfl
theorem wfgc {h : List ABlk} {id : Nat} {r : List Nat} : hasL h (id :: r) = ((h[id]?).isSome && hasL h r) := rfl
theorem wggc {h : List ABlk} : whab h [] = [] := rfl
theorem wwxb {h : List ABlk} {id : Nat} {r : List Nat} : whab h (id :: r) = wzu h[id]? ++ whab h r := rfl
theorem wxxb {L : List Nat} : wiv L [] = true := rfl
theorem wzpb {L : List Nat} {a b : Nat} {r : List (Nat × Nat)} : wiv L ((a, b) :: r) = (memN a L && wiv L r) := rfl
theorem whgc {k : Nat} : wac k = decide (k ≤ 1099511627774) := nble _ _
theorem wigc {h : List ABlk} {m : Nm} : wypb h m [] = [] := rfl
theorem wyxb {h : List ABlk} {m : Nm} {id : Nat} {r : List Nat} : wypb h m (id :: r) = renO m h[id]? :: wypb h m r := rfl
theorem wjgc {m : Nm} {b : ABlk} : renO m (some b) = wos m b := rfl
theorem renBX_X {m : Nm} {cs : List Value} {t z : Nat} {pf : Bool} : wos m (X cs t z pf) = X (bif pf then cs else wne m cs) t z pf := rfl
theorem wkgc {m : Nm} {es : List (Value × Value)} : wos m (.map es) = .map (renM m es) := rfl
theorem wlgc {m : Nm} {a b c : Nat} : wos m (.tok a b c) = .tok a b c := rfl
theorem exactB_X {cs : List Value} {t z : Nat} {pf : Bool} : wnv (X cs t z pf) = true := rfl
theorem wzxb {es : List (Value × Value)} : wnv (.map es) = true := rfl
theorem wayb {a b c : Nat} : wnv (.tok a b c) = true := rfl
theorem refsB_X {cs : List Value} {t z : Nat} {pf : Bool} : wzu (some (X cs t z pf)) = bif pf then [] else wjf cs := rfl
theorem wmgc {es : List (Value × Value)} : wzu (some (.map es)) = wfab es := rfl
theorem wngc {a b c : Nat} : wzu (some (.tok a b c)) = [] := rfl
theorem nm1_at {L : List Nat} {id ver : Nat} : nm1 L id ver = (idxOf id L 0, ver) := rfl
theorem wbyb {n a k : Nat} {r : List Nat} : idxOf n (a :: r) k = bif decide (a = n) then k else idxOf n r (k + 1) := by
 show (bif Nat.beq a n then k else idxOf n r (k + 1)) = _
 rw [nbeq]
theorem upto_0 : upto 0 = [] := rfl
theorem upto_1 : upto 1 = [0] := rfl
theorem upto_2 : upto 2 = [0, 1] := rfl
theorem upto_3 : upto 3 = [0, 1, 2] := rfl
theorem upto_4 : upto 4 = [0, 1, 2, 3] := rfl
theorem upto_5 : upto 5 = [0, 1, 2, 3, 4] := rfl
theorem upto_6 : upto 6 = [0, 1, 2, 3, 4, 5] := rfl
theorem wogc : wjf [] = [] := rfl
theorem wcyb {v : Value} {l : List Value} : wjf (v :: l) = refs v ++ wjf l := rfl
theorem refs_int {k : IntKind} {n : Int} : refs (.int k n) = [] := rfl
theorem ren_int {m : Nm} {k : IntKind} {n : Int} : renV m (.int k n) = .int k n := rfl
theorem wpgc {b : Bool} : refs (.bool b) = [] := rfl
theorem ren_bool {m : Nm} {b : Bool} : renV m (.bool b) = .bool b := rfl
theorem waqb {s : ByteArray} : refs (.string s) = [] := rfl
theorem wdyb {m : Nm} {s : ByteArray} : renV m (.string s) = .string s := rfl
theorem wrlb {k : FloatKind} {a b : Nat} : refs (.complex k a b) = [] := rfl
theorem wbqb {m : Nm} {k : FloatKind} {a b : Nat} : renV m (.complex k a b) = .complex k a b := rfl
theorem refs_FL {n : Nat} {cs : List Value} : refs (FL n cs) = [] := rfl
theorem ren_FL {m : Nm} {n : Nat} {cs : List Value} : renV m (FL n cs) = FL n cs := rfl
theorem refs_FP {n : Nat} {cs : List Value} : refs (FP n cs) = [] := rfl
theorem ren_FP {m : Nm} {n : Nat} {cs : List Value} : renV m (FP n cs) = FP n cs := rfl
theorem wqgc  : refs (.pointer none) = [] := rfl
theorem ren_nilP {m : Nm}  : renV m (.pointer none) = .pointer none := rfl
theorem wrgc  : refs (.nilFunc) = [] := rfl
theorem ren_nilF {m : Nm}  : renV m (.nilFunc) = .nilFunc := rfl
theorem wsgc  : refs (.nilIface) = [] := rfl
theorem ren_nilI {m : Nm}  : renV m (.nilIface) = .nilIface := rfl
theorem refs_ptr {i o : Nat} : refs (.pointer (some ⟨i, o, none⟩)) = [(i, 0)] := rfl
theorem wtgc {n c : Nat} : refs (.slice none n c) = [] := rfl
theorem refs_row {i o n c : Nat} : refs (.slice (some ⟨i, o, none⟩) (n + 1) c) = [(i, 0)] := rfl
theorem wugc {i o : Nat} : refs (.slice (some ⟨i, o, none⟩) 0 1) = [] := rfl
theorem refs_map {r : Nat} : refs (.map (some r)) = [(r, 0)] := rfl
theorem refs_FO {t n : Nat} {cs : List Value} : refs (FO t n cs) = [(t, n)] := rfl
theorem refs_agg {l : List Value} : refs (.agg ⟨l⟩) = wjf l := rfl
theorem weyb {l : List Value} : refs (.tuple ⟨l⟩) = wjf l := rfl
theorem wvgc {g : FuncId} {a b : List Value} : refs (.func (.func g) ⟨a⟩ ⟨b⟩) = wjf a ++ wjf b := rfl
theorem wwgc : wfab [] = [] := rfl
theorem wfyb {k v : Value} {l : List (Value × Value)} : wfab ((k, v) :: l) = refs v ++ wfab l := rfl
theorem wxgc {m : Nm} : wne m [] = [] := rfl
theorem wgyb {m : Nm} {v : Value} {l : List Value} : wne m (v :: l) = renV m v :: wne m l := rfl
theorem ren_ptr {m : Nm} {i o : Nat} : renV m (.pointer (some ⟨i, o, none⟩)) = .pointer (some ⟨(m i 0).1, o, wwy none (m i 0).2⟩) := rfl
theorem wygc : wwy none 0 = none := rfl
theorem ren_nilS {m : Nm} {n c : Nat} : renV m (.slice none n c) = .slice none n c := rfl
theorem ren_row {m : Nm} {i o n c : Nat} : renV m (.slice (some ⟨i, o, none⟩) (n + 1) c) = .slice (some ⟨(m i 0).1, o, wwy none (m i 0).2⟩) (n + 1) c := rfl
theorem ren_row0 {m : Nm} {i o : Nat} : renV m (.slice (some ⟨i, o, none⟩) 0 1) = .slice (some ⟨i, o, none⟩) 0 1 := rfl
theorem ren_map {m : Nm} {r : Nat} : renV m (.map (some r)) = .map (some (m r 0).1) := rfl
theorem ren_FO {m : Nm} {t n : Nat} {cs : List Value} : renV m (FO t n cs) = FO (m t n).1 n cs := rfl
theorem ren_agg {m : Nm} {l : List Value} : renV m (.agg ⟨l⟩) = .agg ⟨wne m l⟩ := rfl
theorem wzgc {m : Nm} {l : List Value} : renV m (.tuple ⟨l⟩) = .tuple ⟨wne m l⟩ := rfl
theorem ren_func {m : Nm} {g : FuncId} {a b : List Value} : renV m (.func (.func g) ⟨a⟩ ⟨b⟩) = .func (.func g) ⟨wne m a⟩ ⟨wne m b⟩ := rfl
theorem renM_nil {m : Nm} : renM m [] = [] := rfl
theorem wahc {m : Nm} {k v : Value} {l : List (Value × Value)} : renM m ((k, v) :: l) = (k, renV m v) :: renM m l := rfl
def wmcb (l : List (Value × Value)) : Bool := l.all fun p => wmr p.2
theorem wifb {l : List (Value × Value)} (h : wmcb l = true) : wfab l = [] := by
 induction l with
 | nil => rfl
 | cons p r ih => simp only [wmcb, List.all_cons, Bool.and_eq_true] at h; simp only [wfab, (wbo h.1).refs, ih h.2, List.append_nil]
theorem wslb {m : Nm} {l : List (Value × Value)} (h : wmcb l = true) : renM m l = l := by
 induction l with
 | nil => rfl
 | cons p r ih => simp only [wmcb, List.all_cons, Bool.and_eq_true] at h; simp only [renM, (wbo h.1).ren, ih h.2]
theorem wjfb {l : List (Value × Value)} (h : wmcb l = true) : wyjb l = [] := by
 induction l with
 | nil => rfl
 | cons p r ih => simp only [wmcb, List.all_cons, Bool.and_eq_true] at h; simp only [wyjb, (wbo h.1).toks, ih h.2, List.append_nil]
section
variable {rec : Rec} {f : FuncId} {p : Nat} {c : Code} {n : Nat} {g : (Nat → Option (List Value)) × Bool} {ins outs : List Tmp} {K : KC R}
def loopY (n : Nat) (g : (Nat → Option (List Value)) × Bool) (outs : List Tmp) (K : KC R) : Option (Out × AH) → Option R
 | some (.code x e, H) => K x (envL n g outs (evs e outs)) H
 | _ => none
def loopX (rec : Rec) (f : FuncId) (p : Nat) (c : Code) (n : Nat) (g : (Nat → Option (List Value)) × Bool) (ins outs : List Tmp) (K : KC R) (vs : List Value) : Option Nrm → Option R
 | some N => loopY n g outs K (rec (.loop f p c (envL n g ins (wne N.m vs))) N.H)
 | none => none
theorem wbhc {e : Env} {H : AH} (h1 : lvOk e.n ins = true) (h2 : lvOk e.n outs = true) : wudb rec f p c e H K (some (ins, outs, 999999)) = loopX rec f p c e.n e.g ins outs K (evs e ins) (wvh H p (evs e ins)) := by
 show (bif lvOk e.n ins && lvOk e.n outs then wpob rec f p c e.n e.g ins outs 999999 (evs e ins) K (wvh H p (evs e ins)) else none) = _
 rw [h1, h2]
 show wpob rec f p c e.n e.g ins outs 999999 (evs e ins) K (wvh H p (evs e ins)) = _
 cases wvh H p (evs e ins) with
 | none => rfl
 | some N =>
  show wtbc e.n e.g outs 999999 K _ = loopY e.n e.g outs K _
  cases rec (.loop f p c (envL e.n e.g ins (wne N.m (evs e ins)))) N.H with
  | none => rfl
  | some q =>
   obtain ⟨o, H1⟩ := q
   cases o <;> rfl
theorem whyb {vs : List Value} {L : List Nat} {m : Nm} {H : AH} : loopX rec f p c n g ins outs K vs (some ⟨L, m, H⟩) = loopY n g outs K (rec (.loop f p c (envL n g ins (wne m vs))) H) := rfl
theorem wiyb {x : AExit} {e : Env} {H : AH} : loopY n g outs K (some (.code x e, H)) = K x (envL n g outs (evs e outs)) H := rfl
def roundX (rec : Rec) (f : FuncId) (p : Nat) (c : Code) (n : Nat) (g : (Nat → Option (List Value)) × Bool) (ins : List Tmp) (vs : List Value) : Option Nrm → Option (Out × AH)
 | some N => rec (.loop f p c (envL n g ins (wne N.m vs))) N.H
 | none => none
def wchc (x : AExit) (n : Nat) (g : (Nat → Option (List Value)) × Bool) (outs : List Tmp) (vs : List Value) : Option Nrm → Option (Out × AH)
 | some N => some (.code x (envL n g outs (wne N.m vs)), N.H)
 | none => none
theorem wcqb {vs : List Value} {L : List Nat} {m : Nm} {H : AH} : roundX rec f p c n g ins vs (some ⟨L, m, H⟩) = rec (.loop f p c (envL n g ins (wne m vs))) H := rfl
theorem wdqb {x : AExit} {vs : List Value} {L : List Nat} {m : Nm} {H : AH} : wchc x n g outs vs (some ⟨L, m, H⟩) = some (.code x (envL n g outs (wne m vs)), H) := rfl
theorem weqb {e : Env} {H : AH} {k : Nat} (h1 : lvOk e.n ins = true) (h2 : lvOk e.n outs = true) : wap rec f p c (some (ins, outs, k)) .normal e H = roundX rec f p c e.n e.g ins (evs e ins) (wvh H p (evs e ins)) := by
 show (bif lvOk e.n ins && lvOk e.n outs then wul ins outs e.n e.g rec f p c .normal e H else none) = _
 rw [h1, h2]
 show wul ins outs e.n e.g rec f p c .normal e H = _
 unfold wul
 simp only
 cases wvh H p (evs e ins) <;> rfl
theorem wdhc {e : Env} {H : AH} {k id : Nat} (h1 : lvOk e.n ins = true) (h2 : lvOk e.n outs = true) : wap rec f p c (some (ins, outs, k)) (.exit id) e H = wchc (.exit id) e.n e.g outs (evs e outs) (wvh H p (evs e outs)) := by
 show (bif lvOk e.n ins && lvOk e.n outs then wul ins outs e.n e.g rec f p c (.exit id) e H else none) = _
 rw [h1, h2]
 show wul ins outs e.n e.g rec f p c (.exit id) e H = _
 unfold wul
 simp only
 cases wvh H p (evs e outs) <;> rfl
theorem wjyb {e : Env} {H : AH} {k : Nat} (h1 : lvOk e.n ins = true) (h2 : lvOk e.n outs = true) : wap rec f p c (some (ins, outs, k)) .ret e H = wchc .ret e.n e.g outs (evs e outs) (wvh H p (evs e outs)) := by
 show (bif lvOk e.n ins && lvOk e.n outs then wul ins outs e.n e.g rec f p c .ret e H else none) = _
 rw [h1, h2]
 show wul ins outs e.n e.g rec f p c .ret e H = _
 unfold wul
 simp only
 cases wvh H p (evs e outs) <;> rfl
end
theorem retR_end {raw : Bool} {p : Nat} {rs : List CRes} {e : Env} {H : AH} : retR P raw p rs .ret e H = valK P raw p H (resR H e rs) := rfl
theorem wehc {raw : Bool} {p : Nat} {rs : List CRes} {e : Env} {H : AH} : retR P raw p rs .normal e H = valK P raw p H (resR H e rs) := rfl
theorem wfhc {p : Nat} {H : AH} {l : List Value} : valK P false p H (some l) = wqvb p H (whd P H 20 [wfh l]) := rfl
theorem valK_raw {p : Nat} {H : AH} {l : List Value} : valK P true p H (some l) = wqvb p H (some ([wfh l], [])) := rfl
theorem wkyb {p : Nat} {H : AH} {v : Value} {fr : Frs} : wqvb p H (some ([v], fr)) = outK (wvh (raise H fr) p [v]) v := rfl
theorem wghc {L : List Nat} {m : Nm} {H : AH} {v : Value} : outK (some ⟨L, m, H⟩) v = some (.val (renV m v), H) := rfl
theorem one_1 {v : Value} : wfh [v] = v := rfl
theorem one_0 : wfh [] = .tuple ⟨[]⟩ := rfl
theorem one_2 {v u : Value} {l : List Value} : wfh (v :: u :: l) = .tuple ⟨v :: u :: l⟩ := rfl
theorem whhc {H : AH} : raise H [] = H := rfl
theorem AH0_HP : AH0 = HP [] := rfl
theorem wihc {h : List ABlk} : wkt h [] = h := rfl
def wdtb (h : List ABlk) (i n : Nat) : Option ABlk → List ABlk
 | some b => h.set i (frzAtB n b)
 | none => h
theorem wlyb {h : List ABlk} {i n : Nat} {r : Frs} : wkt h ((i, n) :: r) = wdtb (wkt h r) i n (wkt h r)[i]? := by
 simp only [wkt, wdtb]
 try (cases (wkt h r)[i]? <;> rfl)
theorem frzSet_X {h : List ABlk} {i n : Nat} {cs : List Value} {t z : Nat} {pf : Bool} : wdtb h i n (some (X cs t z pf)) = h.set i (X cs t (max z n) pf) := rfl
section
variable {rec : Rec} {f : FuncId}
theorem wfqb {H : AH} {a : List Value} {fr : Frs} : wsbb rec f H (some (a, fr)) = wrbb rec f H (raise H fr) fr a (wvh (raise H fr) 0 a) := rfl
def fls (L : List Nat) : List (Nat × Bool) := L.map fun id => (id, false)
theorem wgqb {H : AH} {h : List ABlk} (hh : h.length ≤ 1099511627774) (he : h.all wnv = true) {fr : Frs} {a : List Value} {L : List Nat} {m : Nm} {H2 : AH} : wrbb rec f H (HP h) fr a (some ⟨L, m, H2⟩) = wzo H (HP h) fr L (fls L) (rec (.call f (wne m a)) H2) := by
 show wzo H (HP h) fr L (wqg (HP h) (wjf a ++ wtb (HP h) L) 0 L 0) _ = _
 rw [wcgc hh he]
 rfl
def bk (n : Nat) (L : List Nat) : Nm := fun ix s => bif Nat.blt ix L.length then (getN L ix, s) else (n + (ix - L.length), s)
def wdk (τ : Nm) : List ABlk → List Nat → List ABlk → List ABlk
 | h, [], g => h ++ g.map (wos τ)
 | h, id :: r, b :: g => wdk τ (h.set id (wos τ b)) r g
 | h, _ :: _, [] => h
theorem tops_no {h : List ABlk} : ∀ (L : List Nat), wmn (HP h) (L.map fun id => (id, false)) = L.map fun _ => 0 := by
 intro L
 induction L with
 | nil => rfl
 | cons id r ih => simp only [List.map_cons, wmn, cond_false, ih]
theorem wtlb : ∀ (L : List Nat) (k : Nat), getN (L.map fun _ => 0) k = 0 := by
 intro L
 induction L with
 | nil => intro k; rfl
 | cons a r ih => intro k; cases k with | zero => rfl | succ j => exact ih j
theorem wjhc (n : Nat) (L : List Nat) : wbs n L.length L (L.map fun _ => 0) = bk n L := by
 funext ix s
 show (bif Nat.blt ix L.length then (getN L ix, bif Nat.beq (getN (L.map fun _ => 0) ix) 0 then s else Nat.add (getN (L.map fun _ => 0) ix) s) else (n + (ix - L.length), s)) = _
 rw [wtlb]
 rfl
theorem wkhc (k : Nat) (L ts : List Nat) : wuz k (L.map fun _ => 0) ts = true := by
 unfold wuz
 rw [List.all_eq_true]
 intro t _
 rw [wtlb]
 cases Nat.blt t k <;> rfl
theorem wmyb (Hc : AH) : ∀ (L : List Nat) (ix : Nat), wyp Hc (L.map fun id => (id, false)) ix = true := by
 intro L
 induction L with
 | nil => intro ix; rfl
 | cons id r ih => intro ix; simp only [List.map_cons, wyp, cond_false, ih, Bool.and_self]
theorem wetb (m : Nm) (t0 f0 : Nat) (b : ABlk) : wsk m false t0 f0 (some b) = some (wos m b) := by cases b <;> rfl
theorem whqb {g : List ABlk} (hg : g.length ≤ 1099511627774) : ∀ (k : Nat), k ≤ g.length → hasAll (HP g) (upto k) = true := by
 intro k
 have happ : ∀ (a b : List Nat), hasAll (HP g) (a ++ b) = (hasAll (HP g) a && hasAll (HP g) b) := by
  intro a b
  induction a with
  | nil => rfl
  | cons x r ih => simp only [List.cons_append, hasAll, ih, Bool.and_assoc]
 induction k with
 | zero => intro _; rfl
 | succ k ih =>
  intro hk
  show hasAll (HP g) (upto k ++ [k]) = true
  rw [happ, ih (by omega)]
  simp only [hasAll, wyg g hg, List.getElem?_eq_getElem (show k < g.length by omega)]
  rfl
theorem news_HP (m : Nm) {g : List ABlk} (hg : g.length ≤ 1099511627774) : ∀ (d k : Nat) (h : List ABlk), k + d = g.length → news m (HP g) k d (HP h) = HP (h ++ (g.drop k).map (wos m)) := by
 intro d
 induction d with
 | zero => intro k h hk; rw [List.drop_of_length_le (by omega), List.map_nil, List.append_nil]; rfl
 | succ d ih =>
  intro k h hk
  show news m (HP g) (k + 1) d (addO (HP h) (wsk m false 0 0 ((HP g).get k))) = _
  rw [wyg g hg, List.getElem?_eq_getElem (by omega), wetb]
  show news m (HP g) (k + 1) d ((HP h).push (wos m g[k])) = _
  rw [wao, ih (k + 1) _ (by omega), List.drop_eq_getElem_cons (show k < g.length by omega), List.map_cons, List.append_assoc]
  rfl
theorem backs_HP (m : Nm) (H1 : AH) {g : List ABlk} (hg : g.length ≤ 1099511627774) : ∀ (L : List Nat) (ix : Nat) (h : List ABlk), ix + L.length ≤ g.length → (∀ id ∈ L, id < h.length) →
  HP (wdk m h L (g.drop ix)) = HP ((fun h' => h' ++ (g.drop (ix + L.length)).map (wos m)) (wdk m h L ((g.drop ix).take L.length))) ∧ wyo m H1 (HP g) (L.map fun id => (id, false)) ix (HP h) = HP (wdk m h L ((g.drop ix).take L.length)) := by
 intro L
 induction L with
 | nil =>
  intro ix h hix _
  refine ⟨?_, ?_⟩
  ·simp [wdk]
  ·simp [wdk, wyo]
 | cons id r ih =>
  intro ix h hix hid
  simp only [List.length_cons] at hix
  have hd : g.drop ix = g[ix] :: g.drop (ix + 1) := List.drop_eq_getElem_cons (by omega)
  obtain ⟨i1, i2⟩ := ih (ix + 1) (h.set id (wos m g[ix])) (by omega) (fun x hx => by rw [List.length_set]; exact hid x (List.mem_cons_of_mem _ hx))
  refine ⟨?_, ?_⟩
  ·rw [hd]
   simp only [List.length_cons, List.take_succ_cons, wdk]
   rw [i1, show ix + 1 + r.length = ix + (r.length + 1) by omega]
  ·show wyo m H1 (HP g) (r.map fun id => (id, false)) (ix + 1) (setO (HP h) id (wsk m false (wyh (H1.get id)) (wahb (H1.get id)) ((HP g).get ix))) = _
   rw [wyg g hg, List.getElem?_eq_getElem (by omega), wetb]
   show wyo m H1 (HP g) (r.map fun id => (id, false)) (ix + 1) ((HP h).set id (wos m g[ix])) = _
   rw [wfo _ _ _ (hid id (List.mem_cons_self ..)), i2, hd]
   simp only [List.length_cons, List.take_succ_cons, wdk]
theorem wulb (m : Nm) (h : List ABlk) (L : List Nat) (g : List ABlk) (hl : L.length ≤ g.length) : wdk m h L g = wdk m h L (g.take L.length) ++ (g.drop L.length).map (wos m) := by
 induction L generalizing h g with
 | nil => simp [wdk]
 | cons id r ih =>
  cases g with
  | nil => simp at hl
  | cons b g =>
   simp only [List.length_cons, Nat.add_le_add_iff_right] at hl
   simp only [wdk, List.length_cons, List.take_succ_cons, List.drop_succ_cons]
   exact ih _ _ hl
def chg (h h' : List ABlk) (L : List Nat) (fr : Frs) : List Nat := changed (HP h) (HP h') L ++ wbr fr
theorem wby {h : List ABlk} {fr : Frs} {L : List Nat} {v : Value} {g : List ABlk} (hL : ∀ id ∈ L, id < h.length) (hg : L.length ≤ g.length) (hk : h.length + g.length ≤ 1099511627774) :
  wsm (HP h) fr L (L.map fun id => (id, false)) v (HP g) = .did (renV (bk h.length L) v) none true (HP (wdk (bk h.length L) h L g)) (chg h (wdk (bk h.length L) h L g) L fr) := by
 unfold wsm
 have hg' : g.length ≤ 1099511627774 := by omega
 have h1 : wtz L = true := by
  unfold wtz
  rw [List.all_eq_true]
  intro id hid
  exact wrg (by have := hL id hid; omega)
 have h2 : Nat.ble L.length (HP g).n = true := by rw [HP_n]; exact Nat.ble_eq_true_of_le hg
 have h3 : wac ((HP h).n + (HP g).n) = true := by rw [HP_n, HP_n]; exact wrg hk
 rw [h1, h2, h3, tops_no, wkhc, wmyb, whqb hg' _ hg, HP_n, HP_n, wjhc]
 simp only [Bool.and_self, cond_true]
 have h4 := (backs_HP (bk h.length L) (HP h) hg' L 0 h (by omega) hL).2
 rw [List.drop_zero] at h4
 rw [h4, news_HP _ hg' _ _ _ (by omega), ← wulb _ _ _ _ hg]
 rfl
theorem wiqb {H : AH} {h : List ABlk} {fr : Frs} {a : Nat} {L : List Nat} {v : Value} {g : List ABlk} (hL : ((a :: L).all fun id => decide (id < h.length)) = true) (hg : (a :: L).length ≤ g.length) (hk : h.length + g.length ≤ 1099511627774) :
  wzo H (HP h) fr (a :: L) (fls (a :: L)) (some (.val v, HP g)) = .did (renV (bk h.length (a :: L)) v) none true (HP (wdk (bk h.length (a :: L)) h (a :: L) g)) (chg h (wdk (bk h.length (a :: L)) h (a :: L) g) (a :: L) fr) := by
 show (bif isNil (a :: L) && flat v then Did.did v none true H [] else wsm (HP h) fr (a :: L) _ v (HP g)) = _
 exact wby (fun id hid => of_decide_eq_true (List.all_eq_true.1 hL id hid)) hg hk
def fzn1 : Value → Bool
 | .agg ⟨l⟩ => wai l
 | v => wmr v
def frzV : Value → Bool
 | .tuple ⟨l⟩ => l.all fzn1
 | v => fzn1 v
theorem fzn1_agg {l : List Value} : fzn1 (.agg ⟨l⟩) = wai l := rfl
theorem fzn1_int {k : IntKind} {n : Int} : fzn1 (.int k n) = true := rfl
theorem wlhc {b : Bool} : fzn1 (.bool b) = true := rfl
theorem wjqb {s : ByteArray} : fzn1 (.string s) = true := rfl
theorem wvlb {k : FloatKind} {a b : Nat} : fzn1 (.complex k a b) = true := rfl
theorem fzn1_FL {n : Nat} {cs : List Value} : fzn1 (FL n cs) = true := rfl
theorem fzn1_FP {n : Nat} {cs : List Value} : fzn1 (FP n cs) = true := rfl
theorem wmhc : fzn1 (.pointer none) = true := rfl
theorem wnhc : fzn1 .nilIface = true := rfl
theorem wnyb {l : List Value} : frzV (.tuple ⟨l⟩) = l.all fzn1 := rfl
theorem frzV_agg {l : List Value} : frzV (.agg ⟨l⟩) = wai l := rfl
theorem frzV_int {k : IntKind} {n : Int} : frzV (.int k n) = true := rfl
theorem wohc {b : Bool} : frzV (.bool b) = true := rfl
theorem wkqb {s : ByteArray} : frzV (.string s) = true := rfl
theorem wwlb {k : FloatKind} {a b : Nat} : frzV (.complex k a b) = true := rfl
theorem frzV_FL {n : Nat} {cs : List Value} : frzV (FL n cs) = true := rfl
theorem frzV_FP {n : Nat} {cs : List Value} : frzV (FP n cs) = true := rfl
theorem wphc : frzV (.pointer none) = true := rfl
theorem wqhc : frzV .nilIface = true := rfl
theorem wrhc {v : Value} (h : fzn1 v = true) (m : Nm) : renV m v = v := by
 unfold fzn1 at h
 split at h
 ·show Value.agg ⟨wne m _⟩ = _; rw [whfb h]
 ·exact (wbo h).ren m
theorem frzL_ok {l : List Value} (h : l.all fzn1 = true) (m : Nm) : wne m l = l := by
 induction l with
 | nil => rfl
 | cons v r ih => simp only [List.all_cons, Bool.and_eq_true] at h; simp only [wne, wrhc h.1, ih h.2]
theorem wshc {v : Value} (h : frzV v = true) (m : Nm) : renV m v = v := by
 unfold frzV at h
 split at h
 ·show Value.tuple ⟨wne m _⟩ = _; rw [frzL_ok h]
 ·exact wrhc h m
theorem wlqb {h : List ABlk} {v : Value} {b : ABlk} {g : List ABlk} (hf : flat v = false) (hk : h.length + (b :: g).length ≤ 1099511627774) : wzo (HP h) (HP h) [] [] (fls []) (some (.val v, HP (b :: g))) = .did (renV (bk h.length []) v) none true (HP (h ++ (b :: g).map (wos (bk h.length [])))) [] := by
 show (bif isNil [] && flat v then Did.did v none true (HP h) [] else wsm (HP h) [] [] _ v (HP (b :: g))) = _
 rw [hf]
 show wsm (HP h) [] [] (([] : List Nat).map fun id => (id, false)) v (HP (b :: g)) = _
 rw [wby (L := []) (fun id hid => by cases hid) (Nat.zero_le _) hk]
 simp only [wdk]
 rfl
theorem wncb {h : List ABlk} {v : Value} (hv : frzV v = true) (hk : h.length ≤ 1099511627774) : wzo (HP h) (HP h) [] [] (fls []) (some (.val v, HP [])) = .did v none true (HP h) [] := by
 show (bif isNil [] && flat v then Did.did v none true (HP h) [] else wsm (HP h) [] [] _ v (HP [])) = _
 cases hf : flat v with
 | true => rfl
 | false =>
  show wsm (HP h) [] [] (([] : List Nat).map fun id => (id, false)) v (HP []) = _
  rw [wby (L := []) (fun id hid => by cases hid) (Nat.zero_le _) (by simpa using hk), wshc hv]
  simp only [wdk, List.map_nil, List.append_nil]
  rfl
theorem wocb {h h1 : List ABlk} {p : Nat × Nat} {fr : Frs} {v : Value} (hv : frzV v = true) (hk : h1.length ≤ 1099511627774) : wzo (HP h) (HP h1) (p :: fr) [] (fls []) (some (.val v, HP [])) = .did v none true (HP (bif flat v then h else h1)) (bif flat v then [] else wbr (p :: fr)) := by
 show (bif isNil [] && flat v then Did.did v none true (HP h) [] else wsm (HP h1) (p :: fr) [] _ v (HP [])) = _
 cases hf : flat v with
 | true => rfl
 | false =>
  show wsm (HP h1) (p :: fr) [] (([] : List Nat).map fun id => (id, false)) v (HP []) = _
  rw [wby (L := []) (fun id hid => by cases hid) (Nat.zero_le _) (by simpa using hk), wshc hv]
  simp only [wdk, List.map_nil, List.append_nil]
  rfl
theorem wthc {t n : Nat} {cs : List Value} : wmf (FO t n cs) = false := rfl
theorem wuhc {n : Nat} {cs : List Value} : wmf (FP n cs) = true := rfl
theorem woyb {a : Addr} : wmf (.pointer (some a)) = false := rfl
theorem wmqb : wmf (.pointer none) = true := rfl
theorem wxlb {a : Option Addr} {n c : Nat} : wmf (.slice a n c) = false := rfl
theorem wpyb {r : Nat} : wmf (.map (some r)) = false := rfl
theorem wvhc {a : Option Nat} : (Value.map a).cells = ⟨[.map a]⟩ := eq_of_heq HEq.rfl
theorem isJK_map {a : Option Nat} : isJK (.map a) = false := eq_of_heq HEq.rfl
theorem nilc_ptr {a : Addr} : wyib (.pointer (some a)) = val (.pointer (some a)) := rfl
theorem nilc_FP {n : Nat} {cs : List Value} : wyib (FP n cs) = val (FP n cs) := rfl
theorem mm_min2 {k : IntKind} {a b : Int} : mmV false (.int k a) [.int k b] = val (.int k (min a b)) := by
 show valO (some (.int k (if b < a then b else a))) = _
 rw [show (if b < a then b else a) = min a b by split <;> omega]; rfl
theorem mm_max2 {k : IntKind} {a b : Int} : mmV true (.int k a) [.int k b] = val (.int k (max a b)) := by
 show valO (some (.int k (if b > a then b else a))) = _
 rw [show (if b > a then b else a) = max a b by split <;> omega]; rfl
theorem fl_int {k : IntKind} {n : Int} : flat (.int k n) = true := rfl
theorem fl_bool {b : Bool} : flat (.bool b) = true := rfl
theorem wwhc {s : ByteArray} : flat (.string s) = true := rfl
theorem wqyb {k : FloatKind} {a b : Nat} : flat (.complex k a b) = true := rfl
theorem fl_FL {n : Nat} {cs : List Value} : flat (FL n cs) = false := rfl
theorem fl_FO {t n : Nat} {cs : List Value} : flat (FO t n cs) = false := rfl
theorem fl_ptr {a : Addr} : flat (.pointer (some a)) = false := rfl
theorem fl_map {r : Nat} : flat (.map (some r)) = false := rfl
theorem fl_agg {l : List Value} : flat (.agg ⟨l⟩) = wvp l := rfl
theorem fl_tuple {l : List Value} : flat (.tuple ⟨l⟩) = wvp l := rfl
theorem wxhc : wvp [] = true := rfl
theorem wsu {v : Value} {l : List Value} : wvp (v :: l) = (flat v && wvp l) := rfl
theorem wryb {a b : Nat} {r : Frs} : wbr ((a, b) :: r) = a :: wbr r := rfl
theorem wyhc : wbr [] = [] := rfl
theorem wsyb {H : AH} {s : Option (List Value × Frs)} : wlf rec f H s none = wsbb rec f H s := rfl
theorem bq_X {cs ds : List Value} {t z : Nat} {pf : Bool} : wdkb (some (X cs t z pf)) (some (X ds t z pf)) = beqL cs ds := by
 show (beqL cs ds && (Nat.beq t t && (Nat.beq 1 1 && (([] : List Nat) == [] && (Nat.beq 0 0 && (Nat.beq z z && (false == false && pf == pf))))))) = _
 simp
theorem bq_map {a b : List (Value × Value)} : wdkb (some (.map a)) (some (.map b)) = beqP a b := rfl
theorem bq_tok {a b c : Nat} : wdkb (some (.tok a b c)) (some (.tok a b c)) = true := by
 show (Nat.beq a a && (Nat.beq b b && Nat.beq c c)) = true
 simp
theorem wpcb : beqL [] [] = true := rfl
theorem wrl {a b : Value} {r q : List Value} : beqL (a :: r) (b :: q) = (beqV a b && beqL r q) := rfl
theorem bqP_nil : beqP [] [] = true := rfl
theorem bqP_cons {a b : Value × Value} {r q : List (Value × Value)} : beqP (a :: r) (b :: q) = (beqV a.1 b.1 && (beqV a.2 b.2 && beqP r q)) := rfl
theorem wov {k : IntKind} {n : Int} : beqV (.int k n) (.int k n) = true := by
 show (sameKind k k && eqF n n) = true
 have h1 : sameKind k k = true := by cases k <;> rfl
 have h2 : eqF n n = true := by rw [wjjb]; simp
 rw [h1, h2]; rfl
theorem wnqb {b : Bool} : beqV (.bool b) (.bool b) = true := by cases b <;> rfl
theorem bq_str {l : List UInt8} : beqV (str l) (str l) = true := by
 show (l == l) = true
 simp
theorem bq_ptr {i o : Nat} : beqV (.pointer (some ⟨i, o, none⟩)) (.pointer (some ⟨i, o, none⟩)) = true := by
 show (Nat.beq i i && (Nat.beq o o && ((none : Option Nat) == none))) = true
 simp
theorem bq_nilP : beqV (.pointer none) (.pointer none) = true := rfl
theorem bq_nilS {n c : Nat} : beqV (.slice none n c) (.slice none n c) = true := by
 show (Nat.beq n n && Nat.beq c c) = true
 simp
theorem wzhc {r : Option Nat} : beqV (.map r) (.map r) = true := by
 show (r == r) = true
 simp
theorem wftb (n : Nat) : (Fn.yield n == Fn.yield n) = true := by
 show decide _ = true <;> simp
theorem bq_FL {n : Nat} {cs : List Value} : beqV (FL n cs) (FL n cs) = beqL cs cs := by
 show (Fn.yield n == Fn.yield n && (beqL cs cs && beqL [] [])) = _
 rw [wftb, wpcb]; simp
theorem bq_FO {t n : Nat} {cs : List Value} : beqV (FO t n cs) (FO t n cs) = beqL cs cs := by
 show (Fn.yield n == Fn.yield n && (beqL cs cs && beqL [.map (some t)] [.map (some t)])) = _
 rw [wftb, wrl, wzhc, wpcb]; simp
theorem wkfb {a b : List Value} (h1 : beqL a a = true) (h2 : beqL b b = true) : beqL (a ++ b) (a ++ b) = true := by
 induction a with
 | nil => exact h2
 | cons v r ih =>
  rw [wrl, Bool.and_eq_true] at h1
  rw [List.cons_append, wrl, h1.1, ih h1.2]; rfl
theorem wyhb {α : Type} {enc : α → List Value} (h : ∀ a, beqL (enc a) (enc a) = true) (l : List α) : beqL (l.flatMap enc) (l.flatMap enc) = true := by
 induction l with
 | nil => rfl
 | cons a l ih => rw [List.flatMap_cons]; exact wkfb (h a) ih
theorem chg_same {h : List ABlk} (hh : h.length ≤ 1099511627774) {L : List Nat} {fr : Frs} (hL : (L.all fun id => wdkb h[id]? h[id]?) = true) : chg h h L fr = wbr fr := by
 unfold chg changed
 rw [List.filter_eq_nil_iff.2 (fun id hid => by
  rw [wyg h hh]
  simp [List.all_eq_true.1 hL id hid])]
 rfl
inductive AccLe : List Ti → List Ti → Prop
 | nil : AccLe [] []
 | same {x : Ti} {a b : List Ti} (h : AccLe a b) : AccLe (x :: a) (x :: b)
 | chg {i n m : Nat} {h h' : List ABlk} {L : List Nat} {fr : Frs} {a b : List Ti} (t : AccLe a b) : AccLe (⟨i, [], some (chg h h' L fr, n, m)⟩ :: a) (⟨i, [], some (L ++ wbr fr, n, m)⟩ :: b)
def TiLe (x y : Ti) : Prop := x.i = y.i ∧ x.rd = y.rd ∧ (x.eff = y.eff ∨ ∃ w w' n m, x.eff = some (w, n, m) ∧ y.eff = some (w', n, m) ∧ ∀ id ∈ w, id ∈ w')
inductive TiL : List Ti → List Ti → Prop
 | nil : TiL [] []
 | cons {x y : Ti} {a b : List Ti} (h : TiLe x y) (t : TiL a b) : TiL (x :: a) (y :: b)
theorem chg_sub {h h' : List ABlk} {L : List Nat} {fr : Frs} : ∀ id ∈ chg h h' L fr, id ∈ L ++ wbr fr := by
 intro id hid
 simp only [chg, changed, List.mem_append, List.mem_filter] at hid ⊢
 rcases hid with h | h
 ·exact .inl h.1
 ·exact .inr h
theorem AccLe.rel {a b : List Ti} (h : AccLe a b) : TiL a b := by
 induction h with
 | nil => exact .nil
 | same _ ih => exact .cons ⟨rfl, rfl, .inl rfl⟩ ih
 | chg _ ih => exact .cons ⟨rfl, rfl, .inr ⟨_, _, _, _, rfl, rfl, chg_sub⟩⟩ ih
theorem wtyb {w w' : List Nat} {n m id : Nat} (hs : ∀ i ∈ w, i ∈ w') (h : wpeb (w', n, m) id = true) : wpeb (w, n, m) id = true := by
 unfold wpeb at h ⊢
 simp only [Bool.and_eq_true, Bool.not_eq_true'] at h ⊢
 refine ⟨?_, h.2⟩
 cases hq : w.contains id with
 | false => rfl
 | true =>
  have := hs id (by simpa using hq)
  have h2 : w'.contains id = true := by simpa using this
  rw [h2] at h; cases h.1
theorem sep_mono {b : Array Nat} {x x' y y' : Ti} (hx : TiLe x x') (hy : TiLe y y') (h : sep2 b x' y' = true) : sep2 b x y = true := by
 obtain ⟨i1, r1, e1⟩ := hx
 obtain ⟨i2, r2, e2⟩ := hy
 unfold sep2 at h ⊢
 rw [i1, i2, r1]
 have en : x.eff = none ↔ x'.eff = none := by
  rcases e1 with e | ⟨w, w', n, m, e, e', _⟩
  ·rw [e]
  ·rw [e, e']; simp
 cases hx : x.eff with
 | some p => rfl
 | none =>
  rw [en.1 hx] at h
  rcases e2 with e | ⟨w, w', n, m, e, e', hs⟩
  ·rw [e]; exact h
  ·rw [e]
   rw [e'] at h
   simp only [Bool.or_eq_true] at h ⊢
   rcases h with h | h | h
   ·exact .inl h
   ·exact .inr (.inl h)
   ·exact .inr (.inr (by rw [List.all_eq_true] at h ⊢; exact fun id hid => wtyb hs (h id hid)))
theorem wuyb {b : Array Nat} : ∀ {a a' : List Ti}, TiL a a' → wrk b a' = true → wrk b a = true := by
 intro a a' h
 induction h with
 | nil => intro _; rfl
 | @cons x y l l' hx hl ih =>
  intro hc
  simp only [wrk, Bool.and_eq_true] at hc ⊢
  refine ⟨?_, ih hc.2⟩
  obtain ⟨i1, r1, e1⟩ := hx
  have hs : x.eff.isSome = y.eff.isSome := by
   rcases e1 with e | ⟨w, w', n, m, e, e', _⟩
   ·rw [e]
   ·rw [e, e']; rfl
  have h1 := hc.1
  cases hx : x.eff with
  | none => rfl
  | some p =>
   cases hy : y.eff with
   | none => rw [hx, hy] at hs; cases hs
   | some q =>
    rw [hy] at h1
    simp only at h1 ⊢
    clear ih hc hs hx hy e1
    induction hl with
    | nil => rfl
    | @cons u v l l' hu _ ih =>
     rw [List.all_cons, Bool.and_eq_true] at h1 ⊢
     refine ⟨?_, ih h1.2⟩
     have h2 := h1.1
     obtain ⟨j1, _, f1⟩ := hu
     rcases f1 with f | ⟨w, w', n, m, f, f', _⟩
     ·rw [f, i1, j1]; exact h2
     ·rw [f, i1, j1]; rw [f'] at h2; exact h2
theorem woqb {b : Array Nat} {a a' : List Ti} (h : TiL a a') (hs : wxo b a' = true) : wxo b a = true := by
 have get : ∀ {l l' : List Ti}, TiL l l' → ∀ x ∈ l, ∃ y ∈ l', TiLe x y := by
  intro l l' h
  induction h with
  | nil => intro x hx; cases hx
  | @cons u v l l' hu _ ih =>
   intro x hx
   rcases List.mem_cons.1 hx with rfl | hx
   ·exact ⟨v, List.mem_cons_self .., hu⟩
   ·obtain ⟨y, h1, h2⟩ := ih x hx
    exact ⟨y, List.mem_cons_of_mem _ h1, h2⟩
 unfold wxo at hs ⊢
 rw [List.all_eq_true] at hs ⊢
 intro x hx
 rw [List.all_eq_true]
 intro y hy
 obtain ⟨x', hx', lx⟩ := get h x hx
 obtain ⟨y', hy', ly⟩ := get h y hy
 exact sep_mono lx ly (List.all_eq_true.1 (hs x' hx') y' hy')
theorem wvyb {a a' : List Ti} (h : TiL a a') : TiL a.reverse a'.reverse := by
 have key : ∀ {l l' : List Ti}, TiL l l' → ∀ {r r' : List Ti}, TiL r r' → TiL (l.reverseAux r) (l'.reverseAux r') := by
  intro l l' h
  induction h with
  | nil => intro r r' hr; exact hr
  | cons hu _ ih => intro r r' hr; exact ih (.cons hu hr)
 exact key h .nil
theorem opsK_did {v : Value} {nb : Option ABlk} {eff : Bool} {H : AH} {wr : List Nat} {dst : Option Tmp} {e : Env} {K : KR R} : opsK (.did v nb eff H wr) dst e K = K (e.put dst v) H := rfl
theorem waic {cs : wad} {b : Array Nat} {K : KR R} {d : Option Tmp} {ri : RI} {l : List RO} {k : Nat} {acc : List Ti} {e : Env} {h h' : List ABlk} {v : Value} {wr : List Nat} : opsDC P cs b K d ri l k acc e (HP h) (.did v none true (HP h') wr) = wih P cs b K l (k + 1) (⟨k, [], some (wr, h.length, h'.length)⟩ :: acc) (e.put d v) (HP h') := by
 show wih P cs b K l (k + 1) (⟨k, [], some (wr, (HP h).n, (HP h').n)⟩ :: acc) (e.put d v) (HP h') = _
 rw [HP_n, HP_n]
end
theorem wwyb {τ : Nm} {h g : List ABlk} : wdk τ h [] g = h ++ g.map (wos τ) := by simp only [wdk]
theorem wpqb {τ : Nm} {h : List ABlk} {id : Nat} {r : List Nat} {b : ABlk} {g : List ABlk} : wdk τ h (id :: r) (b :: g) = wdk τ (h.set id (wos τ b)) r g := by simp only [wdk]
theorem bk_at {n : Nat} {L : List Nat} {ix s : Nat} : bk n L ix s = bif decide (ix < L.length) then (getN L ix, s) else (n + (ix - L.length), s) := by
 show (bif Nat.blt ix L.length then _ else _) = _
 rw [nblt]
theorem getN_0 {a : Nat} {r : List Nat} : getN (a :: r) 0 = a := rfl
theorem getN_s {a k : Nat} {r : List Nat} : getN (a :: r) (k + 1) = getN r k := rfl
theorem wbic {f : FuncId} {p : Nat} {rec : Rec} {a b : RC} {K : KC R} {e : Env} {H : AH} {q : Prop} [Decidable q] {r : Option R} (h1 : q → wlj P cfg f p rec a K e H = r) (h2 : ¬ q → wlj P cfg f p rec b K e H = r) : condC P cfg f p rec a b K e H (.bool (decide q)) = r := by
 by_cases hq : q
 ·rw [decide_eq_true hq]; exact h1 hq
 ·rw [decide_eq_false hq]; exact h2 hq
theorem gd_ok {cs : wad} {K : KR R} {d : Option Tmp} {l : List RO} {e : Env} {H : AH} {wr : List Nat} {want : Bool} {x : ARes} {q : Bool} {r : Option R} (h1 : q = want → opsI P cs K d l e H wr x = r) (h2 : q = !want → opsI P cs K d l e H wr (val undef) = r) : wjlb P cs K d l e H wr want x (.bool q) = r := by
 rw [wgxb]
 by_cases hq : q = want
 ·rw [if_pos hq]; exact h1 hq
 ·rw [if_neg hq]; exact h2 (by cases q <;> cases want <;> first | rfl | exact absurd rfl hq)
theorem gdD_ok {cs : wad} {b : Array Nat} {K : KR R} {d : Option Tmp} {ri : RI} {l : List RO} {k : Nat} {acc : List Ti} {e : Env} {H : AH} {want q : Bool} {r : Option R} (h1 : q = want → wih P cs b K (⟨d, none, ri⟩ :: l) k acc e H = r) (h2 : q = !want → wih P cs b K l (k + 1) acc (e.put d undef) H = r) : wjxb P cs b K d ri l k acc e H (wzv want (.bool q)) = r := by
 by_cases hq : q = want
 ·subst hq
  have : wzv q (.bool q) = some true := by cases q <;> rfl
  rw [this, wzsb]; exact h1 rfl
 ·have hq2 : q = !want := by cases q <;> cases want <;> first | rfl | exact absurd rfl hq
  have : wzv want (.bool q) = some false := by rw [hq2]; cases want <;> rfl
  rw [this, wgfb]; exact h2 hq2
theorem gd_skip {cs : wad} {K : KR R} {d : Option Tmp} {l : List RO} {e : Env} {H : AH} {wr : List Nat} {x : ARes} : wjlb P cs K d l e H wr true x (.bool false) = opsR P cs K l (e.put d undef) H := rfl
theorem gd_skip' {cs : wad} {K : KR R} {d : Option Tmp} {l : List RO} {e : Env} {H : AH} {wr : List Nat} {x : ARes} : wjlb P cs K d l e H wr false x (.bool true) = opsR P cs K l (e.put d undef) H := rfl
theorem gd_do {cs : wad} {K : KR R} {d : Option Tmp} {l : List RO} {e : Env} {H : AH} {wr : List Nat} {x : ARes} : wjlb P cs K d l e H wr true x (.bool true) = opsI P cs K d l e H wr x := rfl
theorem gd_do' {cs : wad} {K : KR R} {d : Option Tmp} {l : List RO} {e : Env} {H : AH} {wr : List Nat} {x : ARes} : wjlb P cs K d l e H wr false x (.bool false) = opsI P cs K d l e H wr x := rfl
theorem drawn_ok {b : Array Nat} {acc : List Ti} {K : KR R} {e : Env} {H : AH} {r : Option R} (h : (wrk b acc.reverse && wxo b acc) = true) (k : K e H = r) : wop b acc K e H = r := by rw [draw_end h]; exact k
theorem wlfb {b : Array Nat} {acc acc' : List Ti} {K : KR R} {e : Env} {H : AH} {r : Option R} (hl : AccLe acc acc') (h : (wrk b acc'.reverse && wxo b acc') = true) (k : K e H = r) : wop b acc K e H = r := by
 simp only [Bool.and_eq_true] at h
 refine drawn_ok ?_ k
 rw [wuyb (wvyb hl.rel) h.1, woqb hl.rel h.2]
 rfl
abbrev FzL (l : List Value) : Prop := wjf l = [] ∧ wqb l = true ∧ (∀ m, wne m l = l) ∧ (∀ (P : Program) (H : AH) (d : Nat), whd P H (d + 1) l = some (l, [])) ∧ l.all oneCell = true ∧ nfL l = l ∧ wxp l = [] ∧ wai l = true
theorem fzl {l : List Value} (h : wai l = true) : FzL l :=
 ⟨wnxb h, wqn h, fun _ => whfb h, fun _ _ _ => wpxb h, wlt h, wxhb h, woxb h, h⟩
theorem wgtb {f : FuncId} {p : Nat} {rec : Rec} {a b : RC} {K : KC R} {e : Env} {H : AH} {q : Bool} {r : Option R} (h1 : q = true → wlj P cfg f p rec a K e H = r) (h2 : q = false → wlj P cfg f p rec b K e H = r) : condC P cfg f p rec a b K e H (.bool q) = r := by
 cases q with
 | true => exact h1 rfl
 | false => exact h2 rfl
end
end Go.Den
namespace Go.Proofs.Ytjihbfdbgamcdaa
open Go.Den
@[reducible] def Mv (d n : Nat) : RO := ⟨some d, none, .ins (.mv (.tmp n))⟩
@[reducible] def Op (d : Nat) (i : RI) : RO := ⟨some d, none, i⟩
@[reducible] def Oi (d : Nat) (i : Ins) : RO := ⟨some d, none, .ins i⟩
@[reducible] def On (i : Ins) : RO := ⟨none, none, .ins i⟩
@[reducible] def Ot (d g : Nat) (i : RI) : RO := ⟨some d, some (some g, true), i⟩
@[reducible] def Of (d g : Nat) (i : RI) : RO := ⟨some d, some (some g, false), i⟩
@[reducible] def Tm (n : Nat) : Operand := .tmp n
@[reducible] def Kn (n : Int) : Operand := .const (.int .i64 n)
@[reducible] def Kb (b : Bool) : Operand := .const (.bool b)
noncomputable def wbp : RF := ⟨24, (.seq (.ops [Oi 6 (.mv (Kn 0))]) (.seq (.ops [Mv 7 0, Mv 8 2, Mv 9 1, Op 10 (.int2 .sub .i64 (Tm 8) (Tm 9)), Op 11 (.int2 .add .i64 (Tm 10) (Kn 1)), Op 12 (.int2 .rem .i64 (Tm 7) (Tm 11)), Mv 0 12]) (.seq (.seq (.ops [Mv 13 0, Op 14 (.int2 .lss .i64 (Tm 13) (Kn 0))]) (.cond (Tm 14) (.ops [Mv 15 0, Mv 16 2, Op 17 (.int2 .add .i64 (Tm 15) (Tm 16)), Mv 18 1, Op 19 (.int2 .sub .i64 (Tm 17) (Tm 18)), Op 20 (.int2 .add .i64 (Tm 19) (Kn 1)), Mv 0 20]) .skip)) (.seq (.ops [Mv 21 1, Mv 22 0, Op 23 (.int2 .add .i64 (Tm 21) (Tm 22)), Mv 6 23]) .ret)))), [(.tmp 6)]⟩
theorem wps : trF Try.prog 10 = some wbp := by kernel_rfl
noncomputable def wor (i : Nat) : Code := lp Try.prog 32 i
noncomputable def wpr : RC := (.seq (.ops [Op 4 (.int2 .lss .i64 (Tm 3) (Kn 4))]) (.seq (.cond (Tm 4) .skip (.exit 0)) (.seq (.block 1 (.seq (.ops [Mv 5 3, Mv 2 5]) (.ops [Mv 6 2, Oi 7 (.build [(.int .i64 0), (.int .i64 0)] [(0, (1, (Kn (-1)))), (1, (1, (Kn (-1))))]), Oi 8 (.iaddrA 4 2 (Tm 1) (Tm 6)), On (.store 2 (Tm 8) (Tm 7))]))) (.ops [Op 9 (.int2 .add .i64 (Tm 3) (Kn 1)), Mv 3 9]))))
theorem wcs : trC Try.prog (wor 0) = wpr := by kernel_rfl
noncomputable def wqcb : RF := ⟨11, (.seq (.ops [Oi 0 (.new [(.int .i64 0), (.int .i64 0), (.int .i64 0), (.int .i64 0), (.int .i64 0), (.int .i64 0), (.int .i64 0), (.int .i64 0)] 52)]) (.seq (.ops [Oi 1 (.new [(.int .i64 0), (.int .i64 0), (.int .i64 0), (.int .i64 0), (.int .i64 0), (.int .i64 0), (.int .i64 0), (.int .i64 0)] 52)]) (.seq (.seq (.ops [Oi 3 (.mv (Kn 0))]) (.block 0 (.loop (wor 0)))) (.seq (.ops [Oi 10 (.loadN 8 (Tm 1)), On (.store 8 (Tm 0) (Tm 10))]) .ret)))), [(.cellN 0 8)]⟩
theorem waeb : trF Try.prog 32 = some wqcb := by kernel_rfl
noncomputable def wdc (i : Nat) : Code := lp Try.prog 67 i
noncomputable def wbi : RC := (.seq (.ops [Op 83 (.int2 .lss .i64 (Tm 82) (Tm 81))]) (.seq (.cond (Tm 83) .skip (.exit 1)) (.seq (.block 2 (.seq (.ops [Oi 84 (.iaddrS 9 (Tm 80) (Tm 82)), Oi 85 (.loadN 9 (Tm 84)), Oi 10 (.new [(.int .i64 0), (.int .i64 0), (.int .i64 0), (.int .i64 0), (.int .i64 0), (.int .i64 0), (.int .i64 0), (.int .i64 0), (.int .i64 0)] 81), On (.store 9 (Tm 10) (Tm 85))]) (.seq (.ops [Oi 86 (.faddr 3 (Tm 4)), Oi 87 (.load1 (Tm 86)), Oi 88 (.faddr 0 (Tm 5)), Oi 89 (.load1 (Tm 88)), Oi 90 (.faddr 0 (Tm 10)), Oi 91 (.load1 (Tm 90)), Oi 92 (.build [(.int .i64 0), (.int .i64 0)] [(0, (1, (Tm 89))), (1, (1, (Tm 91)))]), Oi 93 (.faddr 1 (Tm 10)), Oi 94 (.iaddrA 4 2 (Tm 93) (Tm 87)), On (.store 2 (Tm 94) (Tm 92))]) (.ops [Mv 95 8, Oi 96 (.loadN 9 (Tm 10)), Oi 97 (.bslice 81 1 [(.int .i64 0), (.int .i64 0), (.int .i64 0), (.int .i64 0), (.int .i64 0), (.int .i64 0), (.int .i64 0), (.int .i64 0), (.int .i64 0)] [(0, (9, (Tm 96)))]), Oi 98 (.call 96 [(Tm 95), (Tm 97)])])))) (.ops [Op 99 (.int2 .add .i64 (Tm 82) (Kn 1)), Mv 82 99]))))
theorem wci : trC Try.prog (wdc 0) = wbi := by kernel_rfl
noncomputable def wsg : RC := (.seq (.ops [Op 111 (.int2 .lss .i64 (Tm 110) (Tm 109))]) (.seq (.cond (Tm 111) .skip (.exit 3)) (.seq (.block 4 (.seq (.ops [Oi 112 (.iaddrS 9 (Tm 108) (Tm 110)), Oi 113 (.loadN 9 (Tm 112)), Oi 13 (.new [(.int .i64 0), (.int .i64 0), (.int .i64 0), (.int .i64 0), (.int .u64 0), (.int .u64 0), (.int .u64 0), (.int .u64 0), (.slice none 0 0)] 46), On (.store 9 (Tm 13) (Tm 113))]) (.ops [Mv 114 11, Oi 115 (.loadN 2 (Tm 3)), Oi 116 (.loadN 9 (Tm 13)), Oi 117 (.loadN 9 (Tm 5)), Oi 118 (.call 67 [(Tm 115), (Tm 116), (Tm 117)]), Oi 119 (.call 96 [(Tm 114), (Tm 118)])]))) (.ops [Op 120 (.int2 .add .i64 (Tm 110) (Kn 1)), Mv 110 120]))))
theorem wzf : trC Try.prog (wdc 1) = wsg := by kernel_rfl
noncomputable def wdi : RC := (.seq (.ops [Op 131 (.int2 .lss .i64 (Tm 130) (Tm 129))]) (.seq (.cond (Tm 131) .skip (.exit 5)) (.seq (.block 6 (.seq (.ops [Oi 132 (.iaddrS 9 (Tm 128) (Tm 130)), Oi 133 (.loadN 9 (Tm 132)), Oi 15 (.new [(.int .i64 0), (.int .i64 0), (.int .i64 0), (.int .i64 0), (.int .u64 0), (.int .u64 0), (.int .u64 0), (.int .u64 0), (.slice none 0 0)] 46), On (.store 9 (Tm 15) (Tm 133))]) (.ops [Oi 134 (.loadN 2 (Tm 3)), Oi 135 (.loadN 9 (Tm 15)), Mv 136 7, Oi 137 (.call 97 [(Tm 134), (Tm 135), (Tm 136)]), Mv 7 137]))) (.ops [Op 138 (.int2 .add .i64 (Tm 130) (Kn 1)), Mv 130 138]))))
theorem wei : trC Try.prog (wdc 2) = wdi := by kernel_rfl
noncomputable def wds : RF := ⟨158, (.seq (.ops [Oi 3 (.box 129 (Tm 0)), Oi 4 (.box 46 (Tm 1)), Oi 5 (.box 81 (Tm 2)), Oi 6 (.mv (.const (.slice none 0 0)))]) (.seq (.ops [Oi 17 (.loadN 9 (Tm 5)), Oi 18 (.bslice 81 1 [(.int .i64 0), (.int .i64 0), (.int .i64 0), (.int .i64 0), (.int .i64 0), (.int .i64 0), (.int .i64 0), (.int .i64 0), (.int .i64 0)] [(0, (9, (Tm 17)))]), Mv 7 18]) (.seq (.seq (.ops [Oi 19 (.faddr 0 (Tm 4)), Oi 20 (.load1 (Tm 19))]) (.block 0 (.seq (.ops [Op 22 (.int2 .eql .i64 (Tm 20) (Kn 1)), Mv 21 22]) (.cond (Tm 21) (.seq (.draw #[0, 1, 0, 4, 12, 31, 63, 127, 255, 127, 639, 127, 2175, 7807, 16383, 32767] [Oi 23 (.faddr 0 (Tm 5)), Oi 24 (.load1 (Tm 23)), Oi 25 (.faddr 0 (Tm 3)), Oi 26 (.load1 (Tm 25)), Op 27 (.slen (Tm 26)), Op 28 (.int2 .lss .i64 (Tm 24) (Tm 27)), Mv 29 28, Ot 30 29 (.ins (.faddr 4 (Tm 4))), Ot 31 29 (.ins (.loadN 4 (Tm 30))), Ot 32 29 (.ins (.faddr 0 (Tm 3))), Ot 33 29 (.ins (.load1 (Tm 32))), Ot 34 29 (.ins (.faddr 0 (Tm 5))), Ot 35 29 (.ins (.load1 (Tm 34))), Ot 36 29 (.sidx (Tm 33) (Tm 35)), Ot 37 29 (.ins (.call 46 [(Tm 31), (Tm 36)])), Oi 38 (.pick (Tm 29) (Tm 37) (Kb false))]) (.cond (Tm 38) (.seq (.ops [Oi 39 (.faddr 0 (Tm 5)), Oi 40 (.load1 (Tm 39)), Op 41 (.int2 .add .i64 (Tm 40) (Kn 1)), Oi 42 (.faddr 0 (Tm 5)), On (.store 1 (Tm 42) (Tm 41))]) (.seq (.ops [Oi 43 (.loadN 9 (Tm 5)), Oi 44 (.bslice 81 1 [(.int .i64 0), (.int .i64 0), (.int .i64 0), (.int .i64 0), (.int .i64 0), (.int .i64 0), (.int .i64 0), (.int .i64 0), (.int .i64 0)] [(0, (9, (Tm 43)))]), Mv 6 44]) .ret)) .skip)) (.seq (.ops [Op 46 (.int2 .eql .i64 (Tm 20) (Kn 7)), Mv 45 46]) (.cond (Tm 45) (.seq (.ops [Oi 47 (.faddr 0 (Tm 5)), Oi 48 (.load1 (Tm 47)), Op 49 (.int2 .eql .i64 (Tm 48) (Kn 0)), Mv 50 49, Ot 51 50 (.ins (.faddr 1 (Tm 3))), Ot 52 50 (.ins (.load1 (Tm 51))), Oi 53 (.pick (Tm 50) (Tm 52) (Kb false))]) (.cond (Tm 53) (.seq (.ops [Mv 54 7, Mv 6 54]) .ret) .skip)) (.seq (.ops [Op 56 (.int2 .eql .i64 (Tm 20) (Kn 8)), Mv 55 56]) (.cond (Tm 55) (.seq (.ops [Oi 57 (.faddr 0 (Tm 5)), Oi 58 (.load1 (Tm 57)), Oi 59 (.faddr 0 (Tm 3)), Oi 60 (.load1 (Tm 59)), Op 61 (.slen (Tm 60)), Op 62 (.int2 .eql .i64 (Tm 58) (Tm 61))]) (.cond (Tm 62) (.seq (.ops [Mv 63 7, Mv 6 63]) .ret) .skip)) (.seq (.ops [Op 65 (.int2 .eql .i64 (Tm 20) (Kn 6)), Mv 64 65]) (.cond (Tm 64) (.seq (.ops [Oi 66 (.loadN 2 (Tm 3)), Oi 67 (.faddr 3 (Tm 4)), Oi 68 (.load1 (Tm 67)), Oi 69 (.loadN 9 (Tm 5)), Oi 70 (.call 94 [(Tm 66), (Tm 68), (Tm 69)]), Mv 6 70]) .ret) (.seq (.ops [Op 72 (.int2 .eql .i64 (Tm 20) (Kn 5)), Mv 71 72]) (.cond (Tm 71) (.seq (.ops [Oi 73 (.call 95 []), Mv 8 73]) (.seq (.seq (.draw #[0, 0, 2, 6, 14, 0, 63, 127, 0] [Oi 74 (.loadN 2 (Tm 3)), Oi 75 (.faddr 8 (Tm 4)), Oi 76 (.load1 (Tm 75)), Oi 77 (.iaddrS 9 (Tm 76) (Kn 0)), Oi 78 (.loadN 9 (Tm 77)), Oi 79 (.loadN 9 (Tm 5)), Oi 80 (.call 67 [(Tm 74), (Tm 78), (Tm 79)]), Op 81 (.lenS (Tm 80)), Oi 82 (.mv (Kn 0))]) (.block 1 (.loop (wdc 0)))) (.seq (.ops [Mv 100 8, Oi 101 (.nilc (Tm 100)), Oi 102 (.faddr 0 (Tm 101)), Oi 103 (.load1 (Tm 102)), Mv 6 103]) .ret))) (.seq (.ops [Op 105 (.int2 .eql .i64 (Tm 20) (Kn 3)), Mv 104 105]) (.cond (Tm 104) (.seq (.ops [Oi 106 (.call 95 []), Mv 11 106]) (.seq (.seq (.ops [Oi 107 (.faddr 8 (Tm 4)), Oi 108 (.load1 (Tm 107)), Op 109 (.lenS (Tm 108)), Oi 110 (.mv (Kn 0))]) (.block 3 (.loop (wdc 1)))) (.seq (.ops [Mv 121 11, Oi 122 (.nilc (Tm 121)), Oi 123 (.faddr 0 (Tm 122)), Oi 124 (.load1 (Tm 123)), Mv 6 124]) .ret))) (.seq (.ops [Op 126 (.int2 .eql .i64 (Tm 20) (Kn 2)), Mv 125 126]) (.cond (Tm 125) (.seq (.seq (.ops [Oi 127 (.faddr 8 (Tm 4)), Oi 128 (.load1 (Tm 127)), Op 129 (.lenS (Tm 128)), Oi 130 (.mv (Kn 0))]) (.block 5 (.loop (wdc 2)))) (.seq (.ops [Mv 139 7, Mv 6 139]) .ret)) (.seq (.ops [Op 141 (.int2 .eql .i64 (Tm 20) (Kn 4)), Mv 140 141]) (.cond (Tm 140) (.seq (.draw #[0, 0, 0, 0, 15, 31, 63] [Oi 142 (.loadN 2 (Tm 3)), Oi 143 (.loadN 9 (Tm 4)), Oi 144 (.call 95 []), Oi 145 .mkmap, Oi 146 (.build [(str []), (.bool false), (.int .i64 0), (.int .i64 0), (.int .i64 0), (.int .i64 0), (.int .u64 0), (.int .u64 0), (.int .u64 0), (.int .u64 0), (.slice none 0 0), (.pointer none), (.map none)] [(0, (2, (Tm 142))), (2, (9, (Tm 143))), (11, (1, (Tm 144))), (12, (1, (Tm 145)))]), Oi 147 (.box 178 (Tm 146)), Mv 16 147]) (.seq (.ops [Mv 148 16, Oi 149 (.loadN 9 (Tm 5)), Oi 150 (.call 98 [(Tm 148), (Kn 0), (Tm 149)])]) (.seq (.ops [Mv 151 16, Oi 152 (.nilc (Tm 151)), Oi 153 (.faddr 11 (Tm 152)), Oi 154 (.load1 (Tm 153)), Oi 155 (.nilc (Tm 154)), Oi 156 (.faddr 0 (Tm 155)), Oi 157 (.load1 (Tm 156)), Mv 6 157]) .ret))) .skip)))))))))))))))))) (.seq (.ops [Oi 6 (.mv (.const (.slice none 0 0)))]) .ret)))), [(.tmp 6)]⟩
theorem wiw : trF Try.prog 67 = some wds := by kernel_rfl
noncomputable def wes : RF := ⟨55, (.seq (.ops [Oi 3 (.box 129 (Tm 0)), Oi 5 (.box 81 (Tm 2)), Oi 6 (.mv (.const (.slice none 0 0)))]) (.seq (.ops [Mv 9 1, Oi 10 (.faddr 1 (Tm 5)), Oi 11 (.iaddrA 4 2 (Tm 10) (Tm 9)), Oi 12 (.loadN 2 (Tm 11)), Oi 7 (.new [(.int .i64 0), (.int .i64 0)] 50), On (.store 2 (Tm 7) (Tm 12))]) (.seq (.seq (.ops [Oi 13 (.faddr 0 (Tm 7)), Oi 14 (.load1 (Tm 13)), Op 15 (.int2 .lss .i64 (Tm 14) (Kn 0))]) (.cond (Tm 15) (.seq (.ops [Oi 6 (.mv (.const (.slice none 0 0)))]) .ret) .skip)) (.seq (.ops [Oi 16 (.faddr 1 (Tm 7)), Oi 17 (.load1 (Tm 16)), Oi 18 (.faddr 0 (Tm 7)), Oi 19 (.load1 (Tm 18)), Op 20 (.int2 .sub .i64 (Tm 17) (Tm 19)), Mv 8 20]) (.seq (.seq (.draw #[0, 0, 2, 6, 0, 16, 62, 127, 255, 511, 1023, 511, 2559, 511, 8703, 32767, 511, 66047, 511, 262655, 511, 1049087, 511, 7340543, 16712191, 33554431, 67108863] [Mv 21 8, Oi 22 (.faddr 0 (Tm 3)), Oi 23 (.load1 (Tm 22)), Op 24 (.slen (Tm 23)), Oi 25 (.faddr 0 (Tm 5)), Oi 26 (.load1 (Tm 25)), Op 27 (.int2 .sub .i64 (Tm 24) (Tm 26)), Op 28 (.int2 .gtr .i64 (Tm 21) (Tm 27)), Mv 29 28, Of 30 29 (.ins (.faddr 0 (Tm 3))), Of 31 29 (.ins (.load1 (Tm 30))), Of 32 29 (.ins (.faddr 0 (Tm 7))), Of 33 29 (.ins (.load1 (Tm 32))), Of 34 29 (.ins (.faddr 1 (Tm 7))), Of 35 29 (.ins (.load1 (Tm 34))), Of 36 29 (.ssl (Tm 31) (some (Tm 33)) (some (Tm 35))), Of 37 29 (.ins (.faddr 0 (Tm 3))), Of 38 29 (.ins (.load1 (Tm 37))), Of 39 29 (.ins (.faddr 0 (Tm 5))), Of 40 29 (.ins (.load1 (Tm 39))), Of 41 29 (.ins (.faddr 0 (Tm 5))), Of 42 29 (.ins (.load1 (Tm 41))), Of 43 29 (.ins (.mv (Tm 8))), Of 44 29 (.int2 .add .i64 (Tm 42) (Tm 43)), Of 45 29 (.ssl (Tm 38) (some (Tm 40)) (some (Tm 44))), Of 46 29 (.str2 .neq (Tm 36) (Tm 45)), Oi 47 (.pick (Tm 29) (Kb true) (Tm 46))]) (.cond (Tm 47) (.seq (.ops [Oi 6 (.mv (.const (.slice none 0 0)))]) .ret) .skip)) (.seq (.ops [Oi 48 (.faddr 0 (Tm 5)), Oi 49 (.load1 (Tm 48)), Mv 50 8, Op 51 (.int2 .add .i64 (Tm 49) (Tm 50)), Oi 52 (.faddr 0 (Tm 5)), On (.store 1 (Tm 52) (Tm 51))]) (.seq (.ops [Oi 53 (.loadN 9 (Tm 5)), Oi 54 (.bslice 81 1 [(.int .i64 0), (.int .i64 0), (.int .i64 0), (.int .i64 0), (.int .i64 0), (.int .i64 0), (.int .i64 0), (.int .i64 0), (.int .i64 0)] [(0, (9, (Tm 53)))]), Mv 6 54]) .ret))))))), [(.tmp 6)]⟩
theorem wjw : trF Try.prog 94 = some wes := by kernel_rfl
noncomputable def wcy : RF := ⟨4, (.seq (.ops [Oi 0 (.mv (.const (.pointer none)))]) (.seq (.ops [Oi 1 .mkmap, Oi 2 (.build [(.slice none 0 0), (.map none)] [(1, (1, (Tm 1)))]), Oi 3 (.box 173 (Tm 2)), Mv 0 3]) .ret)), [(.tmp 0)]⟩
theorem wiab : trF Try.prog 95 = some wcy := by kernel_rfl
noncomputable def wki (i : Nat) : Code := lp Try.prog 96 i
noncomputable def wwg : RC := (.seq (.ops [Op 9 (.int2 .lss .i64 (Tm 8) (Tm 7))]) (.seq (.cond (Tm 9) .skip (.exit 0)) (.seq (.block 1 (.seq (.ops [Oi 10 (.iaddrS 9 (Tm 6) (Tm 8)), Oi 11 (.loadN 9 (Tm 10)), Oi 5 (.new [(.int .i64 0), (.int .i64 0), (.int .i64 0), (.int .i64 0), (.int .i64 0), (.int .i64 0), (.int .i64 0), (.int .i64 0), (.int .i64 0)] 81), On (.store 9 (Tm 5) (Tm 11))]) (.seq (.draw #[0, 1, 3, 7, 0, 31, 63] [Mv 12 0, Oi 13 (.nilc (Tm 12)), Oi 14 (.faddr 1 (Tm 13)), Oi 15 (.load1 (Tm 14)), Oi 16 (.loadN 9 (Tm 5)), Op 17 (.look 81 (.bool false) false (Tm 15) (Tm 16)), Op 18 (.un .not (Tm 17))]) (.cond (Tm 18) (.seq (.draw #[0, 1, 3, 7, 0, 31] [Mv 19 0, Oi 20 (.nilc (Tm 19)), Oi 21 (.faddr 1 (Tm 20)), Oi 22 (.load1 (Tm 21)), Oi 23 (.loadN 9 (Tm 5)), On (.upd 81 (Tm 22) (Tm 23) (Kb true))]) (.draw #[0, 0, 2, 6, 14, 0, 32, 126, 255, 511, 1023] [Mv 24 0, Mv 25 0, Oi 26 (.nilc (Tm 25)), Oi 27 (.faddr 0 (Tm 26)), Oi 28 (.load1 (Tm 27)), Oi 29 (.loadN 9 (Tm 5)), Oi 30 (.bslice 81 1 [(.int .i64 0), (.int .i64 0), (.int .i64 0), (.int .i64 0), (.int .i64 0), (.int .i64 0), (.int .i64 0), (.int .i64 0), (.int .i64 0)] [(0, (9, (Tm 29)))]), Oi 31 (.app 81 9 72 (Tm 28) (Tm 30)), Oi 32 (.nilc (Tm 24)), Oi 33 (.faddr 0 (Tm 32)), On (.store 1 (Tm 33) (Tm 31))])) .skip)))) (.ops [Op 34 (.int2 .add .i64 (Tm 8) (Kn 1)), Mv 8 34]))))
theorem wxf : trC Try.prog (wki 0) = wwg := by kernel_rfl
noncomputable def whn : RF := ⟨35, (.seq (.ops [Mv 6 1, Op 7 (.lenS (Tm 6)), Oi 8 (.mv (Kn 0))]) (.block 0 (.loop (wki 0)))), []⟩
theorem wbn : trF Try.prog 96 = some whn := by kernel_rfl
noncomputable def wmj (i : Nat) : Code := lp Try.prog 97 i
noncomputable def wfi : RC := (.seq (.ops [Op 14 (.int2 .lss .i64 (Tm 13) (Tm 12))]) (.seq (.cond (Tm 14) .skip (.exit 0)) (.seq (.block 1 (.seq (.ops [Oi 15 (.iaddrS 9 (Tm 11) (Tm 13)), Oi 16 (.loadN 9 (Tm 15)), Oi 9 (.new [(.int .i64 0), (.int .i64 0), (.int .i64 0), (.int .i64 0), (.int .i64 0), (.int .i64 0), (.int .i64 0), (.int .i64 0), (.int .i64 0)] 81), On (.store 9 (Tm 9) (Tm 16))]) (.ops [Mv 17 7, Oi 18 (.loadN 2 (Tm 3)), Oi 19 (.loadN 9 (Tm 4)), Oi 20 (.loadN 9 (Tm 9)), Oi 21 (.call 67 [(Tm 18), (Tm 19), (Tm 20)]), Oi 22 (.call 96 [(Tm 17), (Tm 21)])]))) (.ops [Op 23 (.int2 .add .i64 (Tm 13) (Kn 1)), Mv 13 23]))))
theorem wgi : trC Try.prog (wmj 0) = wfi := by kernel_rfl
noncomputable def wfs : RF := ⟨28, (.seq (.ops [Oi 3 (.box 129 (Tm 0)), Oi 4 (.box 46 (Tm 1)), Oi 6 (.mv (.const (.slice none 0 0)))]) (.seq (.ops [Oi 10 (.call 95 []), Mv 7 10]) (.seq (.seq (.ops [Mv 11 2, Op 12 (.lenS (Tm 11)), Oi 13 (.mv (Kn 0))]) (.block 0 (.loop (wmj 0)))) (.seq (.ops [Mv 24 7, Oi 25 (.nilc (Tm 24)), Oi 26 (.faddr 0 (Tm 25)), Oi 27 (.load1 (Tm 26)), Mv 6 27]) .ret)))), [(.tmp 6)]⟩
theorem wkw : trF Try.prog 97 = some wfs := by kernel_rfl
noncomputable def wtg (i : Nat) : Code := lp Try.prog 98 i
noncomputable def woe : RC := (.seq (.ops [Op 55 (.int2 .lss .i64 (Tm 54) (Tm 53))]) (.seq (.cond (Tm 55) .skip (.exit 0)) (.seq (.block 1 (.seq (.ops [Oi 56 (.iaddrS 9 (Tm 52) (Tm 54)), Oi 57 (.loadN 9 (Tm 56)), Oi 7 (.new [(.int .i64 0), (.int .i64 0), (.int .i64 0), (.int .i64 0), (.int .i64 0), (.int .i64 0), (.int .i64 0), (.int .i64 0), (.int .i64 0)] 81), On (.store 9 (Tm 7) (Tm 57))]) (.seq (.ops [Oi 58 (.faddr 0 (Tm 7)), Oi 59 (.load1 (Tm 58)), Oi 60 (.faddr 0 (Tm 5)), Oi 61 (.load1 (Tm 60)), Op 62 (.int2 .neq .i64 (Tm 59) (Tm 61)), Mv 63 62, Of 64 63 (.ins (.mv (Tm 1))), Of 65 63 (.ins (.mv (Tm 0))), Of 66 63 (.ins (.nilc (Tm 65))), Of 67 63 (.ins (.faddr 2 (Tm 66))), Of 68 63 (.ins (.faddr 1 (Tm 67))), Of 69 63 (.ins (.load1 (Tm 68))), Of 70 63 (.int2 .lss .i64 (Tm 64) (Tm 69)), Oi 71 (.pick (Tm 63) (Kb true) (Tm 70))]) (.cond (Tm 71) (.ops [Mv 72 0, Mv 73 1, Op 74 (.int2 .add .i64 (Tm 73) (Kn 1)), Oi 75 (.loadN 9 (Tm 7)), Oi 76 (.call 98 [(Tm 72), (Tm 74), (Tm 75)])]) .skip)))) (.ops [Op 77 (.int2 .add .i64 (Tm 54) (Kn 1)), Mv 54 77]))))
theorem wje : trC Try.prog (wtg 0) = woe := by kernel_rfl
noncomputable def wkm : RF := ⟨92, (.seq (.ops [Oi 5 (.box 81 (Tm 2))]) (.seq (.seq (.draw #[0, 1, 3, 7, 0, 0, 0, 112, 255] [Mv 8 0, Oi 9 (.nilc (Tm 8)), Oi 10 (.faddr 12 (Tm 9)), Oi 11 (.load1 (Tm 10)), Mv 12 0, Mv 13 1, Oi 14 (.loadN 9 (Tm 5)), Oi 15 (.call 114 [(Tm 12), (Tm 13), (Tm 14)]), Op 16 (.look 194 (.bool false) false (Tm 11) (Tm 15))]) (.cond (Tm 16) .ret .skip)) (.seq (.draw #[0, 1, 3, 7, 0, 0, 0, 112, 255] [Mv 17 0, Oi 18 (.nilc (Tm 17)), Oi 19 (.faddr 12 (Tm 18)), Oi 20 (.load1 (Tm 19)), Mv 21 0, Mv 22 1, Oi 23 (.loadN 9 (Tm 5)), Oi 24 (.call 114 [(Tm 21), (Tm 22), (Tm 23)]), On (.upd 194 (Tm 20) (Tm 24) (Kb true))]) (.seq (.seq (.ops [Mv 25 0, Oi 26 (.nilc (Tm 25)), Oi 27 (.faddr 2 (Tm 26)), Oi 28 (.faddr 2 (Tm 27)), Oi 29 (.load1 (Tm 28)), Op 30 (.int2 .lss .i64 (Tm 29) (Kn 0)), Mv 31 30, Of 32 31 (.ins (.mv (Tm 1))), Of 33 31 (.ins (.mv (Tm 0))), Of 34 31 (.ins (.nilc (Tm 33))), Of 35 31 (.ins (.faddr 2 (Tm 34))), Of 36 31 (.ins (.faddr 2 (Tm 35))), Of 37 31 (.ins (.load1 (Tm 36))), Of 38 31 (.int2 .lss .i64 (Tm 32) (Tm 37)), Oi 39 (.pick (Tm 31) (Kb true) (Tm 38))]) (.cond (Tm 39) (.seq (.draw #[0, 1, 3, 7, 0, 16, 48, 112, 240, 496, 1008, 0, 4095, 8191, 0] [Mv 40 0, Oi 41 (.nilc (Tm 40)), Oi 42 (.faddr 0 (Tm 41)), Oi 43 (.loadN 2 (Tm 42)), Mv 44 0, Oi 45 (.nilc (Tm 44)), Oi 46 (.faddr 2 (Tm 45)), Oi 47 (.faddr 8 (Tm 46)), Oi 48 (.load1 (Tm 47)), Oi 49 (.iaddrS 9 (Tm 48) (Kn 0)), Oi 50 (.loadN 9 (Tm 49)), Oi 51 (.loadN 9 (Tm 5)), Oi 52 (.call 67 [(Tm 43), (Tm 50), (Tm 51)]), Op 53 (.lenS (Tm 52)), Oi 54 (.mv (Kn 0))]) (.block 0 (.loop (wtg 0)))) .skip)) (.seq (.ops [Mv 78 1, Mv 79 0, Oi 80 (.nilc (Tm 79)), Oi 81 (.faddr 2 (Tm 80)), Oi 82 (.faddr 1 (Tm 81)), Oi 83 (.load1 (Tm 82)), Op 84 (.int2 .geq .i64 (Tm 78) (Tm 83))]) (.cond (Tm 84) (.draw #[0, 1, 3, 7, 0, 16, 63] [Mv 85 0, Oi 86 (.nilc (Tm 85)), Oi 87 (.faddr 11 (Tm 86)), Oi 88 (.load1 (Tm 87)), Oi 89 (.loadN 9 (Tm 5)), Oi 90 (.bslice 81 1 [(.int .i64 0), (.int .i64 0), (.int .i64 0), (.int .i64 0), (.int .i64 0), (.int .i64 0), (.int .i64 0), (.int .i64 0), (.int .i64 0)] [(0, (9, (Tm 89)))]), Oi 91 (.call 96 [(Tm 88), (Tm 90)])]) .skip)))))), []⟩
theorem wrn : trF Try.prog 98 = some wkm := by kernel_rfl
noncomputable def wvl : RF := ⟨23, (.seq (.ops [Oi 5 (.box 81 (Tm 2)), Oi 6 (.new [(.int .i64 0), (.int .i64 0), (.int .i64 0), (.int .i64 0), (.int .i64 0), (.int .i64 0), (.int .i64 0), (.int .i64 0), (.int .i64 0), (.int .i64 0)] 194)]) (.seq (.seq (.ops [Mv 7 0, Oi 8 (.nilc (Tm 7)), Oi 9 (.faddr 2 (Tm 8)), Oi 10 (.faddr 2 (Tm 9)), Oi 11 (.load1 (Tm 10)), Op 12 (.int2 .lss .i64 (Tm 11) (Kn 0))]) (.cond (Tm 12) (.ops [Mv 13 1, Mv 14 0, Oi 15 (.nilc (Tm 14)), Oi 16 (.faddr 2 (Tm 15)), Oi 17 (.faddr 1 (Tm 16)), Oi 18 (.load1 (Tm 17)), Op 19 (.mm false (Tm 13) [(Tm 18)]), Mv 1 19]) .skip)) (.seq (.ops [Mv 20 1, Oi 21 (.loadN 9 (Tm 5)), Oi 22 (.build [(.int .i64 0), (.int .i64 0), (.int .i64 0), (.int .i64 0), (.int .i64 0), (.int .i64 0), (.int .i64 0), (.int .i64 0), (.int .i64 0), (.int .i64 0)] [(0, (1, (Tm 20))), (1, (9, (Tm 21)))]), On (.store 10 (Tm 6) (Tm 22))]) .ret))), [(.cellN 6 10)]⟩
theorem wtm : trF Try.prog 114 = some wvl := by kernel_rfl
noncomputable def wlw : RF := ⟨35, (.seq (.ops [Oi 4 (.box 46 (Tm 0)), Oi 8 (.mv (.const (.slice none 0 0)))]) (.seq (.seq (.ops [Oi 9 (.loadN 9 (Tm 4)), Oi 10 (.call 63 [(Tm 9), (Kb true)]), Op 11 (.un .not (Tm 10)), Mv 12 11, Of 13 12 (.ins (.mv (Tm 1))), Of 14 12 (.slen (Tm 13)), Of 15 12 (.int2 .gtr .i64 (Tm 14) (Kn 60)), Oi 16 (.pick (Tm 12) (Kb true) (Tm 15)), Mv 17 16, Of 18 17 (.ins (.mv (Tm 3))), Of 19 17 (.int2 .lss .i64 (Tm 18) (Kn 0)), Oi 20 (.pick (Tm 17) (Kb true) (Tm 19)), Mv 21 20, Of 22 21 (.ins (.mv (Tm 3))), Of 23 21 (.ins (.mv (Tm 1))), Of 24 21 (.slen (Tm 23)), Of 25 21 (.int2 .gtr .i64 (Tm 22) (Tm 24)), Oi 26 (.pick (Tm 21) (Kb true) (Tm 25))]) (.cond (Tm 26) (.seq (.ops [Oi 8 (.mv (.const (.slice none 0 0)))]) .ret) .skip)) (.seq (.draw #[0, 0, 3, 0, 0, 0, 48, 127, 255] [Mv 27 1, Mv 28 2, Oi 29 (.build [(str []), (.bool false)] [(0, (1, (Tm 27))), (1, (1, (Tm 28)))]), Oi 30 (.loadN 9 (Tm 4)), Mv 31 3, Oi 32 (.call 32 []), Oi 33 (.build [(.int .i64 0), (.int .i64 0), (.int .i64 0), (.int .i64 0), (.int .i64 0), (.int .i64 0), (.int .i64 0), (.int .i64 0), (.int .i64 0)] [(0, (1, (Tm 31))), (1, (8, (Tm 32)))]), Oi 34 (.call 67 [(Tm 29), (Tm 30), (Tm 33)]), Mv 8 34]) .ret))), [(.tmp 8)]⟩
theorem wpv : trF Try.prog 30 = some wlw := by kernel_rfl
noncomputable def wrcb : RF := ⟨29, (.seq (.ops [Oi 2 (.box 46 (Tm 0)), Oi 4 (.mv (Kb false))]) (.seq (.ops [Mv 6 1, Oi 7 (.build [(.bool false), (.int .i64 0)] [(0, (1, (Tm 6)))]), Oi 8 (.box 156 (Tm 7)), Mv 5 8]) (.seq (.ops [Oi 9 (.loadN 9 (Tm 2)), Oi 10 (.call 88 [(Tm 9)]), Op 11 (.int2 .leq .i64 (Tm 10) (Kn 40)), Mv 12 11, Ot 13 12 (.ins (.mv (Tm 5))), Ot 14 12 (.ins (.loadN 9 (Tm 2))), Ot 15 12 (.ins (.call 89 [(Tm 13), (Tm 14)])), Oi 16 (.pick (Tm 12) (Tm 15) (Kb false)), Mv 17 16, Ot 18 17 (.ins (.mv (Tm 5))), Ot 19 17 (.ins (.loadN 9 (Tm 2))), Ot 20 17 (.ins (.call 90 [(Tm 18), (Tm 19), (Kn 0)])), Oi 21 (.pick (Tm 17) (Tm 20) (Kb false)), Mv 22 21, Ot 23 22 (.ins (.mv (Tm 5))), Ot 24 22 (.ins (.nilc (Tm 23))), Ot 25 22 (.ins (.faddr 1 (Tm 24))), Ot 26 22 (.ins (.load1 (Tm 25))), Ot 27 22 (.int2 .leq .i64 (Tm 26) (Kn 3)), Oi 28 (.pick (Tm 22) (Tm 27) (Kb false)), Mv 4 28]) .ret))), [(.tmp 4)]⟩
theorem wbeb : trF Try.prog 63 = some wrcb := by kernel_rfl
noncomputable def wqr (i : Nat) : Code := lp Try.prog 88 i
noncomputable def wrr : RC := (.seq (.ops [Op 10 (.int2 .lss .i64 (Tm 9) (Tm 8))]) (.seq (.cond (Tm 10) .skip (.exit 0)) (.seq (.block 1 (.seq (.ops [Oi 11 (.iaddrS 9 (Tm 7) (Tm 9)), Oi 12 (.loadN 9 (Tm 11)), Oi 5 (.new [(.int .i64 0), (.int .i64 0), (.int .i64 0), (.int .i64 0), (.int .u64 0), (.int .u64 0), (.int .u64 0), (.int .u64 0), (.slice none 0 0)] 46), On (.store 9 (Tm 5) (Tm 12))]) (.ops [Mv 13 3, Oi 14 (.loadN 9 (Tm 5)), Oi 15 (.call 88 [(Tm 14)]), Op 16 (.int2 .add .i64 (Tm 13) (Tm 15)), Mv 3 16]))) (.ops [Op 17 (.int2 .add .i64 (Tm 9) (Kn 1)), Mv 9 17]))))
theorem wgs : trC Try.prog (wqr 0) = wrr := by kernel_rfl
noncomputable def wscb : RF := ⟨19, (.seq (.ops [Oi 1 (.box 46 (Tm 0)), Oi 2 (.mv (Kn 0))]) (.seq (.ops [Oi 3 (.mv (Kn 1))]) (.seq (.seq (.ops [Oi 6 (.faddr 8 (Tm 1)), Oi 7 (.load1 (Tm 6)), Op 8 (.lenS (Tm 7)), Oi 9 (.mv (Kn 0))]) (.block 0 (.loop (wqr 0)))) (.seq (.ops [Mv 18 3, Mv 2 18]) .ret)))), [(.tmp 2)]⟩
theorem wceb : trF Try.prog 88 = some wscb := by kernel_rfl
noncomputable def wav (i : Nat) : Code := lp Try.prog 89 i
noncomputable def wgo : RF := ⟨45, (.seq (.ops [Oi 3 (.box 46 (Tm 1)), Oi 4 (.mv (Kb false))]) (.seq (.seq (.ops [Mv 7 0, Oi 8 (.nilc (Tm 7)), Oi 9 (.faddr 0 (Tm 8)), Oi 10 (.load1 (Tm 9)), Mv 11 10, Of 12 11 (.ins (.faddr 0 (Tm 3))), Of 13 11 (.ins (.load1 (Tm 12))), Of 14 11 (.int2 .neq .i64 (Tm 13) (Kn 2)), Oi 15 (.pick (Tm 11) (Kb true) (Tm 14))]) (.cond (Tm 15) (.seq (.ops [Oi 4 (.mv (Kb true))]) .ret) .skip)) (.seq (.seq (.ops [Oi 16 (.faddr 8 (Tm 3)), Oi 17 (.load1 (Tm 16)), Op 18 (.lenS (Tm 17)), Oi 19 (.mv (Kn 0))]) (.block 0 (.loop (wav 0)))) (.seq (.ops [Oi 4 (.mv (Kb true))]) .ret)))), [(.tmp 4)]⟩
theorem wsr : trF Try.prog 89 = some wgo := by kernel_rfl
noncomputable def wlk (i : Nat) : Code := lp Try.prog 90 i
noncomputable def wlh : RC := (.seq (.ops [Op 80 (.int2 .lss .i64 (Tm 79) (Tm 78))]) (.seq (.cond (Tm 80) .skip (.exit 1)) (.seq (.block 2 (.seq (.ops [Oi 81 (.iaddrS 9 (Tm 77) (Tm 79)), Oi 82 (.loadN 9 (Tm 81)), Oi 8 (.new [(.int .i64 0), (.int .i64 0), (.int .i64 0), (.int .i64 0), (.int .u64 0), (.int .u64 0), (.int .u64 0), (.int .u64 0), (.slice none 0 0)] 46), On (.store 9 (Tm 8) (Tm 82))]) (.seq (.ops [Mv 83 0, Oi 84 (.loadN 9 (Tm 8)), Mv 85 2, Oi 86 (.call 90 [(Tm 83), (Tm 84), (Tm 85)]), Op 87 (.un .not (Tm 86))]) (.cond (Tm 87) (.seq (.ops [Oi 6 (.mv (Kb false))]) .ret) .skip)))) (.ops [Op 88 (.int2 .add .i64 (Tm 79) (Kn 1)), Mv 79 88]))))
theorem woh : trC Try.prog (wlk 0) = wlh := by kernel_rfl
noncomputable def woq : RF := ⟨89, (.seq (.ops [Oi 4 (.box 46 (Tm 1)), Oi 6 (.mv (Kb false))]) (.seq (.seq (.ops [Oi 9 (.loadN 9 (Tm 4)), Oi 10 (.call 107 [(Tm 9)]), Op 11 (.un .not (Tm 10)), Mv 12 11, Of 13 12 (.ins (.loadN 9 (Tm 4))), Of 14 12 (.ins (.call 108 [(Tm 13)])), Of 15 12 (.un .not (Tm 14)), Oi 16 (.pick (Tm 12) (Kb true) (Tm 15)), Mv 17 16, Of 18 17 (.ins (.faddr 0 (Tm 4))), Of 19 17 (.ins (.load1 (Tm 18))), Of 20 17 (.int2 .eql .i64 (Tm 19) (Kn 3)), Of 21 17 (.ins (.mv (Tm 20))), Ot 22 21 (.ins (.mv (Tm 0))), Ot 23 21 (.ins (.nilc (Tm 22))), Ot 24 21 (.ins (.faddr 0 (Tm 23))), Ot 25 21 (.ins (.load1 (Tm 24))), Ot 26 21 (.un .not (Tm 25)), Of 27 17 (.ins (.pick (Tm 21) (Tm 26) (Kb false))), Oi 28 (.pick (Tm 17) (Kb true) (Tm 27))]) (.cond (Tm 28) (.seq (.ops [Oi 6 (.mv (Kb false))]) .ret) .skip)) (.seq (.seq (.ops [Oi 29 (.faddr 0 (Tm 4)), Oi 30 (.load1 (Tm 29))]) (.block 0 (.seq (.ops [Op 32 (.int2 .eql .i64 (Tm 30) (Kn 5)), Mv 31 32]) (.cond (Tm 31) (.seq (.ops [Mv 33 0, Oi 34 (.nilc (Tm 33)), Oi 35 (.faddr 1 (Tm 34)), Oi 36 (.load1 (Tm 35)), Op 37 (.int2 .add .i64 (Tm 36) (Kn 1)), Oi 38 (.nilc (Tm 33)), Oi 39 (.faddr 1 (Tm 38)), On (.store 1 (Tm 39) (Tm 37))]) (.seq (.ops [Mv 40 2, Op 41 (.int2 .add .i64 (Tm 40) (Kn 1)), Mv 2 41]) (.seq (.draw #[0, 1, 0, 4, 12, 28, 63, 127, 255, 511, 1023, 2047, 4095, 4095, 12287, 28671, 61439, 131071, 262143, 524287] [Oi 42 (.faddr 3 (Tm 4)), Oi 43 (.load1 (Tm 42)), Mv 44 0, Oi 45 (.nilc (Tm 44)), Oi 46 (.faddr 1 (Tm 45)), Oi 47 (.load1 (Tm 46)), Op 48 (.int2 .neq .i64 (Tm 43) (Tm 47)), Mv 49 48, Of 50 49 (.ins (.mv (Tm 2))), Of 51 49 (.int2 .gtr .i64 (Tm 50) (Kn 6)), Oi 52 (.pick (Tm 49) (Kb true) (Tm 51)), Mv 53 52, Of 54 53 (.ins (.mv (Tm 0))), Of 55 53 (.ins (.faddr 8 (Tm 4))), Of 56 53 (.ins (.load1 (Tm 55))), Of 57 53 (.ins (.iaddrS 9 (Tm 56) (Kn 0))), Of 58 53 (.ins (.loadN 9 (Tm 57))), Of 59 53 (.ins (.call 89 [(Tm 54), (Tm 58)])), Of 60 53 (.un .not (Tm 59)), Oi 61 (.pick (Tm 53) (Kb true) (Tm 60))]) (.cond (Tm 61) (.seq (.ops [Oi 6 (.mv (Kb false))]) .ret) .skip)))) (.seq (.ops [Op 63 (.int2 .eql .i64 (Tm 30) (Kn 6)), Mv 62 63]) (.cond (Tm 62) (.seq (.draw #[0, 1, 3, 7, 15, 31, 15, 79, 207, 463, 1023, 2047, 4095] [Oi 64 (.faddr 3 (Tm 4)), Oi 65 (.load1 (Tm 64)), Op 66 (.int2 .geq .i64 (Tm 65) (Kn 1)), Mv 67 66, Ot 68 67 (.ins (.faddr 3 (Tm 4))), Ot 69 67 (.ins (.load1 (Tm 68))), Ot 70 67 (.ins (.mv (Tm 0))), Ot 71 67 (.ins (.nilc (Tm 70))), Ot 72 67 (.ins (.faddr 1 (Tm 71))), Ot 73 67 (.ins (.load1 (Tm 72))), Ot 74 67 (.int2 .leq .i64 (Tm 69) (Tm 73)), Oi 75 (.pick (Tm 67) (Tm 74) (Kb false)), Mv 6 75]) .ret) .skip)))))) (.seq (.seq (.ops [Oi 76 (.faddr 8 (Tm 4)), Oi 77 (.load1 (Tm 76)), Op 78 (.lenS (Tm 77)), Oi 79 (.mv (Kn 0))]) (.block 1 (.loop (wlk 0)))) (.seq (.ops [Oi 6 (.mv (Kb true))]) .ret))))), [(.tmp 6)]⟩
theorem wbv : trF Try.prog 90 = some woq := by kernel_rfl
noncomputable def wmfb : RF := ⟨40, (.seq (.ops [Oi 1 (.box 46 (Tm 0)), Oi 2 (.mv (Kb false))]) (.seq (.seq (.ops [Oi 3 (.faddr 0 (Tm 1)), Oi 4 (.load1 (Tm 3)), Op 5 (.int2 .neq .i64 (Tm 4) (Kn 1)), Mv 6 5, Ot 7 6 (.ins (.faddr 4 (Tm 1))), Ot 8 6 (.ins (.loadN 4 (Tm 7))), Ot 9 6 (.ins (.build [(.int .u64 0), (.int .u64 0), (.int .u64 0), (.int .u64 0)] [])), Ot 10 6 (.eqc true [(.int .u64), (.int .u64), (.int .u64), (.int .u64)] (Tm 8) (Tm 9)), Oi 11 (.pick (Tm 6) (Tm 10) (Kb false)), Mv 12 11, Of 13 12 (.ins (.faddr 0 (Tm 1))), Of 14 12 (.ins (.load1 (Tm 13))), Of 15 12 (.int2 .neq .i64 (Tm 14) (Kn 4)), Of 16 12 (.ins (.mv (Tm 15))), Ot 17 16 (.ins (.faddr 1 (Tm 1))), Ot 18 16 (.ins (.load1 (Tm 17))), Ot 19 16 (.int2 .neq .i64 (Tm 18) (Kn 0)), Ot 20 16 (.ins (.mv (Tm 19))), Of 21 20 (.ins (.faddr 2 (Tm 1))), Of 22 20 (.ins (.load1 (Tm 21))), Of 23 20 (.int2 .neq .i64 (Tm 22) (Kn 0)), Ot 24 16 (.ins (.pick (Tm 20) (Kb true) (Tm 23))), Of 25 12 (.ins (.pick (Tm 16) (Tm 24) (Kb false))), Oi 26 (.pick (Tm 12) (Kb true) (Tm 25))]) (.cond (Tm 26) (.seq (.ops [Oi 2 (.mv (Kb false))]) .ret) .skip)) (.seq (.ops [Oi 27 (.faddr 0 (Tm 1)), Oi 28 (.load1 (Tm 27)), Op 29 (.int2 .eql .i64 (Tm 28) (Kn 5)), Mv 30 29, Of 31 30 (.ins (.faddr 0 (Tm 1))), Of 32 30 (.ins (.load1 (Tm 31))), Of 33 30 (.int2 .eql .i64 (Tm 32) (Kn 6)), Oi 34 (.pick (Tm 30) (Kb true) (Tm 33)), Mv 35 34, Of 36 35 (.ins (.faddr 3 (Tm 1))), Of 37 35 (.ins (.load1 (Tm 36))), Of 38 35 (.int2 .eql .i64 (Tm 37) (Kn 0)), Oi 39 (.pick (Tm 35) (Kb true) (Tm 38)), Mv 2 39]) .ret))), [(.tmp 2)]⟩
theorem wzhb : trF Try.prog 107 = some wmfb := by kernel_rfl
noncomputable def wnfb : RF := ⟨65, (.seq (.ops [Oi 1 (.box 46 (Tm 0)), Oi 2 (.mv (Kb false))]) (.seq (.ops [Oi 4 (.faddr 8 (Tm 1)), Oi 5 (.load1 (Tm 4)), Op 6 (.lenS (Tm 5)), Mv 3 6]) (.seq (.seq (.ops [Oi 7 (.faddr 0 (Tm 1)), Oi 8 (.load1 (Tm 7))]) (.block 0 (.seq (.ops [Op 10 (.int2 .eql .i64 (Tm 8) (Kn 1)), Mv 9 10]) (.cond (Tm 9) (.seq (.ops [Mv 11 3, Op 12 (.int2 .eql .i64 (Tm 11) (Kn 0)), Mv 13 12, Ot 14 13 (.ins (.faddr 4 (Tm 1))), Ot 15 13 (.ins (.loadN 4 (Tm 14))), Ot 16 13 (.ins (.build [(.int .u64 0), (.int .u64 0), (.int .u64 0), (.int .u64 0)] [])), Ot 17 13 (.eqc true [(.int .u64), (.int .u64), (.int .u64), (.int .u64)] (Tm 15) (Tm 16)), Oi 18 (.pick (Tm 13) (Tm 17) (Kb false)), Mv 2 18]) .ret) (.seq (.ops [Op 20 (.int2 .eql .i64 (Tm 8) (Kn 2)), Mv 19 20]) (.cond (Tm 19) (.seq (.ops [Mv 21 3, Op 22 (.int2 .neq .i64 (Tm 21) (Kn 1)), Mv 23 22, Ot 24 23 (.ins (.faddr 8 (Tm 1))), Ot 25 23 (.ins (.load1 (Tm 24))), Ot 26 23 (.ins (.bslice 3 2 [(.int .i64 0), (.int .i64 0)] [(0, (1, (Kn 2))), (1, (1, (Kn 3)))])), Ot 27 23 (.ins (.call 133 [(Tm 25), (Tm 26)])), Ot 28 23 (.un .not (Tm 27)), Oi 29 (.pick (Tm 23) (Tm 28) (Kb false)), Mv 2 29]) .ret) (.seq (.ops [Op 31 (.int2 .eql .i64 (Tm 8) (Kn 3)), Mv 30 31]) (.cond (Tm 30) (.seq (.ops [Mv 32 3, Op 33 (.int2 .geq .i64 (Tm 32) (Kn 2)), Mv 34 33, Ot 35 34 (.ins (.faddr 8 (Tm 1))), Ot 36 34 (.ins (.load1 (Tm 35))), Ot 37 34 (.ins (.bslice 3 1 [(.int .i64 0)] [(0, (1, (Kn 3)))])), Ot 38 34 (.ins (.call 133 [(Tm 36), (Tm 37)])), Ot 39 34 (.un .not (Tm 38)), Oi 40 (.pick (Tm 34) (Tm 39) (Kb false)), Mv 2 40]) .ret) (.seq (.ops [Op 42 (.int2 .eql .i64 (Tm 8) (Kn 4)), Mv 41 42]) (.cond (Tm 41) (.seq (.ops [Mv 43 3, Op 44 (.int2 .eql .i64 (Tm 43) (Kn 1)), Mv 45 44, Ot 46 45 (.ins (.faddr 8 (Tm 1))), Ot 47 45 (.ins (.load1 (Tm 46))), Ot 48 45 (.ins (.bslice 3 3 [(.int .i64 0), (.int .i64 0), (.int .i64 0)] [(0, (1, (Kn 1))), (1, (1, (Kn 5))), (2, (1, (Kn 6)))])), Ot 49 45 (.ins (.call 133 [(Tm 47), (Tm 48)])), Oi 50 (.pick (Tm 45) (Tm 49) (Kb false)), Mv 51 50, Ot 52 51 (.ins (.loadN 9 (Tm 1))), Ot 53 51 (.ins (.call 134 [(Tm 52)])), Oi 54 (.pick (Tm 51) (Tm 53) (Kb false)), Mv 2 54]) .ret) (.seq (.ops [Op 56 (.int2 .eql .i64 (Tm 8) (Kn 5)), Mv 55 56]) (.cond (Tm 55) (.seq (.ops [Mv 57 3, Op 58 (.int2 .eql .i64 (Tm 57) (Kn 1)), Mv 2 58]) .ret) (.seq (.seq (.ops [Op 60 (.int2 .eql .i64 (Tm 8) (Kn 6)), Mv 59 60]) (.cond (Tm 59) .skip (.seq (.ops [Op 61 (.int2 .eql .i64 (Tm 8) (Kn 7)), Mv 59 61]) (.cond (Tm 59) .skip (.ops [Op 62 (.int2 .eql .i64 (Tm 8) (Kn 8)), Mv 59 62]))))) (.cond (Tm 59) (.seq (.ops [Mv 63 3, Op 64 (.int2 .eql .i64 (Tm 63) (Kn 0)), Mv 2 64]) .ret) .skip)))))))))))))) (.seq (.ops [Oi 2 (.mv (Kb false))]) .ret)))), [(.tmp 2)]⟩
theorem waib : trF Try.prog 108 = some wnfb := by kernel_rfl
noncomputable def wtcb : RF := ⟨14, (.seq (.ops [Oi 2 (.box 43 (Tm 0)), Oi 4 (.mv (Kb false))]) (.seq (.ops [Mv 5 1, Op 6 (.int2 .quo .u8 (Tm 5) (.const (.int .u8 64))), Oi 7 (.iaddrA 4 1 (Tm 2) (Tm 6)), Oi 8 (.load1 (Tm 7)), Mv 9 1, Op 10 (.int2 .rem .u8 (Tm 9) (.const (.int .u8 64))), Op 11 (.shift .shr (Tm 8) (Tm 10)), Op 12 (.int2 .and .u64 (Tm 11) (.const (.int .u64 1))), Op 13 (.int2 .eql .u64 (Tm 12) (.const (.int .u64 1))), Mv 4 13]) .ret)), [(.tmp 4)]⟩
theorem wdeb : trF Try.prog 46 = some wtcb := by kernel_rfl
noncomputable def wylb : RF := ⟨8, (.seq (.ops [Oi 3 (.box 38 (Tm 1)), Oi 4 (.mv (Kb false))]) (.seq (.ops [Mv 5 0, Oi 6 (.mkfn (.func 150) [] [(Tm 3)]), Oi 7 (.call 149 [(Tm 5), (Tm 6)]), Mv 4 7]) .ret)), [(.tmp 4)]⟩
theorem wzlb : trF Try.prog 133 = some wylb := by kernel_rfl
noncomputable def wamb : RF := ⟨29, (.seq (.ops [Oi 1 (.box 46 (Tm 0)), Oi 2 (.mv (Kb false))]) (.seq (.ops [Oi 3 (.faddr 1 (Tm 1)), Oi 4 (.load1 (Tm 3)), Op 5 (.int2 .geq .i64 (Tm 4) (Kn 0)), Mv 6 5, Ot 7 6 (.ins (.faddr 1 (Tm 1))), Ot 8 6 (.ins (.load1 (Tm 7))), Ot 9 6 (.int2 .leq .i64 (Tm 8) (Kn 20)), Oi 10 (.pick (Tm 6) (Tm 9) (Kb false)), Mv 11 10, Ot 12 11 (.ins (.faddr 2 (Tm 1))), Ot 13 11 (.ins (.load1 (Tm 12))), Ot 14 11 (.int2 .eql .i64 (Tm 13) (Kn (-1))), Ot 15 11 (.ins (.mv (Tm 14))), Of 16 15 (.ins (.faddr 2 (Tm 1))), Of 17 15 (.ins (.load1 (Tm 16))), Of 18 15 (.ins (.faddr 1 (Tm 1))), Of 19 15 (.ins (.load1 (Tm 18))), Of 20 15 (.mm true (Tm 19) [(Kn 1)]), Of 21 15 (.int2 .geq .i64 (Tm 17) (Tm 20)), Of 22 15 (.ins (.mv (Tm 21))), Ot 23 22 (.ins (.faddr 2 (Tm 1))), Ot 24 22 (.ins (.load1 (Tm 23))), Ot 25 22 (.int2 .leq .i64 (Tm 24) (Kn 20)), Of 26 15 (.ins (.pick (Tm 22) (Tm 25) (Kb false))), Ot 27 11 (.ins (.pick (Tm 15) (Kb true) (Tm 26))), Oi 28 (.pick (Tm 11) (Tm 27) (Kb false)), Mv 2 28]) .ret)), [(.tmp 2)]⟩
theorem wbmb : trF Try.prog 134 = some wamb := by kernel_rfl
noncomputable def weh : RF := ⟨9, (.seq (.ops [Oi 4 (.mv (Kb false))]) (.seq (.ops [Mv 5 0, Mv 6 1, Oi 7 (.call 162 [(Tm 5), (Tm 6)]), Op 8 (.int2 .geq .i64 (Tm 7) (Kn 0)), Mv 4 8]) .ret)), [(.tmp 4)]⟩
theorem wik : trF Try.prog 149 = some weh := by kernel_rfl
noncomputable def wucb : RF := ⟨8, (.seq (.ops [Oi 2 (.box 46 (Tm 0)), Oi 3 (.mv (Kb false))]) (.seq (.ops [Oi 4 (.load1 (Tm 1)), Oi 5 (.faddr 0 (Tm 2)), Oi 6 (.load1 (Tm 5)), Oi 7 (.call 151 [(Tm 4), (Tm 6)]), Mv 3 7]) .ret)), [(.tmp 3)]⟩
theorem weeb : trF Try.prog 150 = some wucb := by kernel_rfl
noncomputable def wqk : RF := ⟨9, (.seq (.ops [Oi 4 (.mv (Kb false))]) (.seq (.ops [Mv 5 0, Mv 6 1, Oi 7 (.call 163 [(Tm 5), (Tm 6)]), Op 8 (.int2 .geq .i64 (Tm 7) (Kn 0)), Mv 4 8]) .ret)), [(.tmp 4)]⟩
theorem wco : trF Try.prog 151 = some wqk := by kernel_rfl
noncomputable def wde (i : Nat) : Code := lp Try.prog 162 i
noncomputable def woc : RC := (.seq (.ops [Op 9 (.int2 .lss .i64 (Tm 8) (Tm 7))]) (.seq (.cond (Tm 9) .skip (.exit 0)) (.seq (.block 1 (.seq (.ops [Mv 10 8, Mv 5 10]) (.seq (.ops [Mv 11 1, Mv 12 0, Mv 13 5, Oi 14 (.iaddrS 9 (Tm 12) (Tm 13)), Oi 15 (.loadN 9 (Tm 14)), Oi 16 (.dyn (Tm 11) [(Tm 15)])]) (.cond (Tm 16) (.seq (.ops [Mv 17 5, Mv 4 17]) .ret) .skip)))) (.ops [Op 18 (.int2 .add .i64 (Tm 8) (Kn 1)), Mv 8 18]))))
theorem wcd : trC Try.prog (wde 0) = woc := by kernel_rfl
noncomputable def whi : RF := ⟨19, (.seq (.ops [Oi 4 (.mv (Kn 0))]) (.seq (.seq (.ops [Mv 6 0, Op 7 (.lenS (Tm 6)), Oi 8 (.mv (Kn 0))]) (.block 0 (.loop (wde 0)))) (.seq (.ops [Oi 4 (.mv (Kn (-1)))]) .ret))), [(.tmp 4)]⟩
theorem wel : trF Try.prog 162 = some whi := by kernel_rfl
noncomputable def wbh (i : Nat) : Code := lp Try.prog 163 i
noncomputable def wcf : RC := (.seq (.ops [Op 9 (.int2 .lss .i64 (Tm 8) (Tm 7))]) (.seq (.cond (Tm 9) .skip (.exit 0)) (.seq (.block 1 (.seq (.ops [Mv 10 8, Mv 5 10]) (.seq (.ops [Mv 11 1, Mv 12 0, Mv 13 5, Oi 14 (.iaddrS 1 (Tm 12) (Tm 13)), Oi 15 (.load1 (Tm 14)), Op 16 (.int2 .eql .i64 (Tm 11) (Tm 15))]) (.cond (Tm 16) (.seq (.ops [Mv 17 5, Mv 4 17]) .ret) .skip)))) (.ops [Op 18 (.int2 .add .i64 (Tm 8) (Kn 1)), Mv 8 18]))))
theorem wif : trC Try.prog (wbh 0) = wcf := by kernel_rfl
noncomputable def wlm : RF := ⟨19, (.seq (.ops [Oi 4 (.mv (Kn 0))]) (.seq (.seq (.ops [Mv 6 0, Op 7 (.lenS (Tm 6)), Oi 8 (.mv (Kn 0))]) (.block 0 (.loop (wbh 0)))) (.seq (.ops [Oi 4 (.mv (Kn (-1)))]) .ret))), [(.tmp 4)]⟩
theorem whp : trF Try.prog 163 = some wlm := by kernel_rfl
noncomputable def wrp : RF := ⟨14, (.seq (.ops [Oi 2 (.box 40 (Tm 0)), Oi 4 (.new [(.int .i64 0), (.int .i64 0), (.int .i64 0), (.int .i64 0), (.int .u64 0), (.int .u64 0), (.int .u64 0), (.int .u64 0), (.slice none 0 0)] 46)]) (.seq (.ops [Oi 5 (.new [(.int .i64 0)] 3), Oi 6 (.new [(.int .i64 0)] 3), Oi 7 (.new [(.int .i64 0)] 3), On (.store 1 (Tm 5) (Kn 0)), On (.store 1 (Tm 6) (Kn 0)), On (.store 1 (Tm 7) (Kn 14))]) (.seq (.ops [Oi 9 (.loadN 2 (Tm 2)), Mv 10 1, Oi 11 (.build [(.slice none 0 0), (.slice none 0 0), (.bool false), (.pointer none), (.pointer none), (.pointer none)] [(0, (2, (Tm 9))), (2, (1, (Tm 10))), (3, (1, (Tm 5))), (4, (1, (Tm 6))), (5, (1, (Tm 7)))]), Oi 8 (.new [(.slice none 0 0), (.slice none 0 0), (.bool false), (.pointer none), (.pointer none), (.pointer none)] 117), On (.store 6 (Tm 8) (Tm 11))]) (.seq (.ops [Oi 12 (.loadN 6 (Tm 8)), Oi 13 (.call 62 [(Tm 12), (Kn 0)]), On (.store 9 (Tm 4) (Tm 13))]) .ret)))), [(.cellN 4 9)]⟩
theorem wmt : trF Try.prog 20 = some wrp := by kernel_rfl
noncomputable def wbf : RF := ⟨89, (.seq (.ops [Oi 2 (.box 117 (Tm 0)), Oi 4 (.new [(.int .i64 0), (.int .i64 0), (.int .i64 0), (.int .i64 0), (.int .u64 0), (.int .u64 0), (.int .u64 0), (.int .u64 0), (.slice none 0 0)] 46)]) (.seq (.ops [Oi 12 (.loadN 6 (Tm 2)), Oi 13 (.call 86 [(Tm 12)]), Mv 11 13, Oi 14 (.ext (Tm 11) 0), Oi 15 (.ext (Tm 11) 1), Mv 5 14, Mv 6 15]) (.seq (.draw #[0, 1, 0, 4, 12, 28, 60, 127, 255] [Oi 16 (.faddr 5 (Tm 2)), Oi 17 (.load1 (Tm 16)), Oi 18 (.faddr 5 (Tm 2)), Oi 19 (.load1 (Tm 18)), Oi 20 (.nilc (Tm 19)), Oi 21 (.load1 (Tm 20)), Op 22 (.int2 .sub .i64 (Tm 21) (Kn 1)), Oi 23 (.nilc (Tm 17)), On (.store 1 (Tm 23) (Tm 22))]) (.seq (.ops [Mv 24 5, Oi 25 (.call 10 [(Tm 24), (Kn 0), (Kn 9)]), Mv 7 25]) (.seq (.seq (.ops [Oi 26 (.faddr 2 (Tm 2)), Oi 27 (.load1 (Tm 26)), Mv 28 27, Ot 29 28 (.ins (.mv (Tm 7))), Ot 30 28 (.int2 .eql .i64 (Tm 29) (Kn 9)), Oi 31 (.pick (Tm 28) (Tm 30) (Kb false)), Mv 32 31, Ot 33 32 (.ins (.faddr 5 (Tm 2))), Ot 34 32 (.ins (.load1 (Tm 33))), Ot 35 32 (.ins (.nilc (Tm 34))), Ot 36 32 (.ins (.load1 (Tm 35))), Ot 37 32 (.int2 .gtr .i64 (Tm 36) (Kn 4)), Oi 38 (.pick (Tm 32) (Tm 37) (Kb false)), Mv 39 38, Ot 40 39 (.ins (.mv (Tm 1))), Ot 41 39 (.int2 .lss .i64 (Tm 40) (Kn 3)), Oi 42 (.pick (Tm 39) (Tm 41) (Kb false))]) (.cond (Tm 42) (.seq (.draw #[0, 0, 0, 4, 12, 31, 0, 0, 255, 0, 0, 2047, 4095] [Oi 43 (.loadN 6 (Tm 2)), Mv 44 1, Mv 45 6, Op 46 (.int2 .and .i64 (Tm 45) (Kn 1)), Op 47 (.int2 .add .i64 (Kn 1) (Tm 46)), Oi 48 (.call 87 [(Tm 43), (Tm 44), (Tm 47)]), Oi 49 (.loadN 6 (Tm 2)), Mv 50 1, Oi 51 (.call 87 [(Tm 49), (Tm 50), (Kn 1)]), Oi 8 (.new [(.int .i64 0), (.int .i64 0), (.int .i64 0), (.int .i64 0), (.int .u64 0), (.int .u64 0), (.int .u64 0), (.int .u64 0), (.slice none 0 0)] 46), Oi 9 (.new [(.int .i64 0), (.int .i64 0), (.int .i64 0), (.int .i64 0), (.int .u64 0), (.int .u64 0), (.int .u64 0), (.int .u64 0), (.slice none 0 0)] 46), On (.store 9 (Tm 8) (Tm 48)), On (.store 9 (Tm 9) (Tm 51))]) (.seq (.ops [Oi 52 (.loadN 9 (Tm 8)), Oi 53 (.loadN 9 (Tm 9)), Oi 54 (.bslice 46 2 [(.int .i64 0), (.int .i64 0), (.int .i64 0), (.int .i64 0), (.int .u64 0), (.int .u64 0), (.int .u64 0), (.int .u64 0), (.slice none 0 0), (.int .i64 0), (.int .i64 0), (.int .i64 0), (.int .i64 0), (.int .u64 0), (.int .u64 0), (.int .u64 0), (.int .u64 0), (.slice none 0 0)] [(0, (9, (Tm 52))), (9, (9, (Tm 53)))]), Oi 55 (.build [(.int .i64 0), (.int .i64 0), (.int .i64 0), (.int .i64 0), (.int .u64 0), (.int .u64 0), (.int .u64 0), (.int .u64 0), (.slice none 0 0)] [(0, (1, (Kn 3))), (8, (1, (Tm 54)))]), On (.store 9 (Tm 4) (Tm 55))]) .ret)) .skip)) (.seq (.draw #[0, 0, 0, 4, 12, 31, 0, 127] [Oi 56 (.loadN 6 (Tm 2)), Mv 57 1, Mv 58 6, Oi 59 (.call 10 [(Tm 58), (Kn 0), (Kn 2)]), Op 60 (.int2 .add .i64 (Kn 1) (Tm 59)), Oi 61 (.call 87 [(Tm 56), (Tm 57), (Tm 60)]), Oi 10 (.new [(.int .i64 0), (.int .i64 0), (.int .i64 0), (.int .i64 0), (.int .u64 0), (.int .u64 0), (.int .u64 0), (.int .u64 0), (.slice none 0 0)] 46), On (.store 9 (Tm 10) (Tm 61))]) (.seq (.seq (.ops [Mv 62 7, Op 63 (.int2 .eql .i64 (Tm 62) (Kn 8)), Mv 64 63, Ot 65 64 (.ins (.faddr 0 (Tm 10))), Ot 66 64 (.ins (.load1 (Tm 65))), Ot 67 64 (.int2 .eql .i64 (Tm 66) (Kn 2)), Oi 68 (.pick (Tm 64) (Tm 67) (Kb false))]) (.cond (Tm 68) (.ops [Oi 69 (.build [(.int .i64 0), (.int .i64 0), (.int .i64 0), (.int .i64 0), (.int .u64 0), (.int .u64 0), (.int .u64 0), (.int .u64 0), (.slice none 0 0)] [(0, (1, (Kn 7)))]), Oi 70 (.bslice 46 1 [(.int .i64 0), (.int .i64 0), (.int .i64 0), (.int .i64 0), (.int .u64 0), (.int .u64 0), (.int .u64 0), (.int .u64 0), (.slice none 0 0)] [(0, (9, (Tm 69)))]), Oi 71 (.faddr 8 (Tm 10)), Oi 72 (.load1 (Tm 71)), Oi 73 (.app 46 9 88 (Tm 70) (Tm 72)), Oi 74 (.faddr 8 (Tm 10)), On (.store 1 (Tm 74) (Tm 73))]) .skip)) (.seq (.seq (.ops [Mv 75 7, Op 76 (.int2 .eql .i64 (Tm 75) (Kn 7)), Mv 77 76, Ot 78 77 (.ins (.faddr 0 (Tm 10))), Ot 79 77 (.ins (.load1 (Tm 78))), Ot 80 77 (.int2 .eql .i64 (Tm 79) (Kn 2)), Oi 81 (.pick (Tm 77) (Tm 80) (Kb false))]) (.cond (Tm 81) (.ops [Oi 82 (.faddr 8 (Tm 10)), Oi 83 (.load1 (Tm 82)), Oi 84 (.build [(.int .i64 0), (.int .i64 0), (.int .i64 0), (.int .i64 0), (.int .u64 0), (.int .u64 0), (.int .u64 0), (.int .u64 0), (.slice none 0 0)] [(0, (1, (Kn 8)))]), Oi 85 (.bslice 46 1 [(.int .i64 0), (.int .i64 0), (.int .i64 0), (.int .i64 0), (.int .u64 0), (.int .u64 0), (.int .u64 0), (.int .u64 0), (.slice none 0 0)] [(0, (9, (Tm 84)))]), Oi 86 (.app 46 9 88 (Tm 83) (Tm 85)), Oi 87 (.faddr 8 (Tm 10)), On (.store 1 (Tm 87) (Tm 86))]) .skip)) (.seq (.ops [Oi 88 (.loadN 9 (Tm 10)), On (.store 9 (Tm 4) (Tm 88))]) .ret))))))))), [(.cellN 4 9)]⟩
theorem wdf : trF Try.prog 62 = some wbf := by kernel_rfl
noncomputable def wmm : RF := ⟨49, (.seq (.ops [Oi 1 (.box 117 (Tm 0)), Oi 2 (.mv (Kn 0)), Oi 3 (.mv (Kn 0))]) (.seq (.ops [Oi 8 (.faddr 3 (Tm 1)), Oi 9 (.load1 (Tm 8)), Oi 10 (.nilc (Tm 9)), Oi 11 (.load1 (Tm 10)), Mv 4 11]) (.seq (.ops [Oi 12 (.faddr 3 (Tm 1)), Oi 13 (.load1 (Tm 12)), Mv 14 4, Op 15 (.int2 .add .i64 (Tm 14) (Kn 1)), Oi 16 (.nilc (Tm 13)), On (.store 1 (Tm 16) (Tm 15))]) (.seq (.ops [Oi 5 (.mv (Kn 0)), Oi 6 (.mv (Kn 0))]) (.seq (.seq (.ops [Mv 17 4, Oi 18 (.faddr 0 (Tm 1)), Oi 19 (.faddr 0 (Tm 18)), Oi 20 (.load1 (Tm 19)), Op 21 (.lenS (Tm 20)), Op 22 (.int2 .lss .i64 (Tm 17) (Tm 21)), Mv 23 22, Ot 24 23 (.ins (.mv (Tm 4))), Ot 25 23 (.int2 .lss .i64 (Tm 24) (Kn 30)), Oi 26 (.pick (Tm 23) (Tm 25) (Kb false))]) (.cond (Tm 26) (.ops [Oi 27 (.faddr 0 (Tm 1)), Oi 28 (.faddr 0 (Tm 27)), Oi 29 (.load1 (Tm 28)), Mv 30 4, Oi 31 (.iaddrS 1 (Tm 29) (Tm 30)), Oi 32 (.load1 (Tm 31)), Mv 5 32]) .skip)) (.seq (.seq (.ops [Oi 33 (.faddr 0 (Tm 1)), Oi 34 (.faddr 1 (Tm 33)), Oi 35 (.load1 (Tm 34)), Op 36 (.lenS (Tm 35)), Mv 7 36]) (.seq (.ops [Mv 37 7, Op 38 (.int2 .gtr .i64 (Tm 37) (Kn 0))]) (.cond (Tm 38) (.draw #[0, 1, 3, 0, 0, 24, 63, 127, 255] [Oi 39 (.faddr 0 (Tm 1)), Oi 40 (.faddr 1 (Tm 39)), Oi 41 (.load1 (Tm 40)), Mv 42 4, Mv 43 7, Op 44 (.int2 .rem .i64 (Tm 42) (Tm 43)), Oi 45 (.iaddrS 1 (Tm 41) (Tm 44)), Oi 46 (.load1 (Tm 45)), Mv 6 46]) .skip))) (.seq (.ops [Mv 47 5, Mv 48 6, Mv 2 47, Mv 3 48]) .ret))))))), [(.tmp 2), (.tmp 3)]⟩
theorem wip : trF Try.prog 86 = some wmm := by kernel_rfl
noncomputable def whf (i : Nat) : Code := lp Try.prog 87 i
noncomputable def wqf : RC := (.seq (.ops [Op 10 (.int2 .lss .i64 (Tm 9) (Tm 8))]) (.seq (.cond (Tm 10) .skip (.exit 0)) (.seq (.block 1 (.ops [Mv 11 7, Oi 12 (.loadN 6 (Tm 3)), Mv 13 1, Oi 14 (.call 106 [(Tm 12), (Tm 13)]), Oi 15 (.bslice 46 1 [(.int .i64 0), (.int .i64 0), (.int .i64 0), (.int .i64 0), (.int .u64 0), (.int .u64 0), (.int .u64 0), (.int .u64 0), (.slice none 0 0)] [(0, (9, (Tm 14)))]), Oi 16 (.app 46 9 88 (Tm 11) (Tm 15)), Mv 7 16])) (.ops [Op 17 (.int2 .add .i64 (Tm 9) (Kn 1)), Mv 9 17]))))
theorem wxg : trC Try.prog (whf 0) = wqf := by kernel_rfl
noncomputable def wxi : RF := ⟨26, (.seq (.ops [Oi 3 (.box 117 (Tm 0)), Oi 6 (.new [(.int .i64 0), (.int .i64 0), (.int .i64 0), (.int .i64 0), (.int .u64 0), (.int .u64 0), (.int .u64 0), (.int .u64 0), (.slice none 0 0)] 46)]) (.seq (.ops [Oi 7 (.mv (.const (.slice none 0 0)))]) (.seq (.seq (.ops [Mv 8 2, Oi 9 (.mv (Kn 0))]) (.block 0 (.loop (whf 0)))) (.seq (.seq (.ops [Mv 18 7, Op 19 (.lenS (Tm 18)), Op 20 (.int2 .eql .i64 (Tm 19) (Kn 1))]) (.cond (Tm 20) (.seq (.ops [Mv 21 7, Oi 22 (.iaddrS 9 (Tm 21) (Kn 0)), Oi 23 (.loadN 9 (Tm 22)), On (.store 9 (Tm 6) (Tm 23))]) .ret) .skip)) (.seq (.ops [Mv 24 7, Oi 25 (.build [(.int .i64 0), (.int .i64 0), (.int .i64 0), (.int .i64 0), (.int .u64 0), (.int .u64 0), (.int .u64 0), (.int .u64 0), (.slice none 0 0)] [(0, (1, (Kn 2))), (8, (1, (Tm 24)))]), On (.store 9 (Tm 6) (Tm 25))]) .ret))))), [(.cellN 6 9)]⟩
theorem wjk : trF Try.prog 87 = some wxi := by kernel_rfl
noncomputable def wec : RF := ⟨105, (.seq (.ops [Oi 2 (.box 117 (Tm 0)), Oi 4 (.new [(.int .i64 0), (.int .i64 0), (.int .i64 0), (.int .i64 0), (.int .u64 0), (.int .u64 0), (.int .u64 0), (.int .u64 0), (.slice none 0 0)] 46)]) (.seq (.ops [Oi 13 (.loadN 6 (Tm 2)), Oi 14 (.call 86 [(Tm 13)]), Mv 12 14, Oi 15 (.ext (Tm 12) 0), Oi 16 (.ext (Tm 12) 1), Mv 5 15, Mv 6 16]) (.seq (.draw #[0, 1, 0, 4, 12, 28, 60, 127, 255] [Oi 17 (.faddr 5 (Tm 2)), Oi 18 (.load1 (Tm 17)), Oi 19 (.faddr 5 (Tm 2)), Oi 20 (.load1 (Tm 19)), Oi 21 (.nilc (Tm 20)), Oi 22 (.load1 (Tm 21)), Op 23 (.int2 .sub .i64 (Tm 22) (Kn 2)), Oi 24 (.nilc (Tm 18)), On (.store 1 (Tm 24) (Tm 23))]) (.seq (.ops [Mv 25 6, Oi 26 (.call 132 [(Tm 25)]), Oi 27 (.build [(.int .i64 0), (.int .i64 0), (.int .i64 0), (.int .i64 0), (.int .u64 0), (.int .u64 0), (.int .u64 0), (.int .u64 0), (.slice none 0 0)] [(0, (1, (Kn 1))), (4, (4, (Tm 26)))]), Oi 7 (.new [(.int .i64 0), (.int .i64 0), (.int .i64 0), (.int .i64 0), (.int .u64 0), (.int .u64 0), (.int .u64 0), (.int .u64 0), (.slice none 0 0)] 46), On (.store 9 (Tm 7) (Tm 27))]) (.seq (.ops [Mv 28 5, Oi 29 (.call 10 [(Tm 28), (Kn 0), (Kn 9)]), Mv 8 29]) (.seq (.seq (.ops [Mv 30 8, Op 31 (.int2 .geq .i64 (Tm 30) (Kn 6)), Mv 32 31, Ot 33 32 (.ins (.faddr 5 (Tm 2))), Ot 34 32 (.ins (.load1 (Tm 33))), Ot 35 32 (.ins (.nilc (Tm 34))), Ot 36 32 (.ins (.load1 (Tm 35))), Ot 37 32 (.int2 .gtr .i64 (Tm 36) (Kn 3)), Oi 38 (.pick (Tm 32) (Tm 37) (Kb false)), Mv 39 38, Ot 40 39 (.ins (.mv (Tm 1))), Ot 41 39 (.int2 .lss .i64 (Tm 40) (Kn 3)), Oi 42 (.pick (Tm 39) (Tm 41) (Kb false)), Mv 43 42, Ot 44 43 (.ins (.faddr 4 (Tm 2))), Ot 45 43 (.ins (.load1 (Tm 44))), Ot 46 43 (.ins (.nilc (Tm 45))), Ot 47 43 (.ins (.load1 (Tm 46))), Ot 48 43 (.int2 .lss .i64 (Tm 47) (Kn 3)), Oi 49 (.pick (Tm 43) (Tm 48) (Kb false))]) (.cond (Tm 49) (.seq (.draw #[0, 1, 0, 4, 12, 28, 60, 127, 255] [Oi 50 (.faddr 4 (Tm 2)), Oi 51 (.load1 (Tm 50)), Oi 52 (.faddr 4 (Tm 2)), Oi 53 (.load1 (Tm 52)), Oi 54 (.nilc (Tm 53)), Oi 55 (.load1 (Tm 54)), Op 56 (.int2 .add .i64 (Tm 55) (Kn 1)), Oi 57 (.nilc (Tm 51)), On (.store 1 (Tm 57) (Tm 56))]) (.seq (.ops [Oi 58 (.faddr 4 (Tm 2)), Oi 59 (.load1 (Tm 58)), Oi 60 (.nilc (Tm 59)), Oi 61 (.load1 (Tm 60)), Mv 9 61]) (.ops [Mv 62 9, Oi 63 (.loadN 6 (Tm 2)), Mv 64 1, Op 65 (.int2 .add .i64 (Tm 64) (Kn 1)), Oi 66 (.call 62 [(Tm 63), (Tm 65)]), Oi 67 (.bslice 46 1 [(.int .i64 0), (.int .i64 0), (.int .i64 0), (.int .i64 0), (.int .u64 0), (.int .u64 0), (.int .u64 0), (.int .u64 0), (.slice none 0 0)] [(0, (9, (Tm 66)))]), Oi 68 (.build [(.int .i64 0), (.int .i64 0), (.int .i64 0), (.int .i64 0), (.int .u64 0), (.int .u64 0), (.int .u64 0), (.int .u64 0), (.slice none 0 0)] [(0, (1, (Kn 5))), (3, (1, (Tm 62))), (8, (1, (Tm 67)))]), On (.store 9 (Tm 7) (Tm 68))]))) (.seq (.ops [Mv 69 8, Op 70 (.int2 .eql .i64 (Tm 69) (Kn 5)), Mv 71 70, Ot 72 71 (.ins (.faddr 4 (Tm 2))), Ot 73 71 (.ins (.load1 (Tm 72))), Ot 74 71 (.ins (.nilc (Tm 73))), Ot 75 71 (.ins (.load1 (Tm 74))), Ot 76 71 (.int2 .gtr .i64 (Tm 75) (Kn 0)), Oi 77 (.pick (Tm 71) (Tm 76) (Kb false))]) (.cond (Tm 77) (.ops [Mv 78 6, Oi 79 (.faddr 4 (Tm 2)), Oi 80 (.load1 (Tm 79)), Oi 81 (.nilc (Tm 80)), Oi 82 (.load1 (Tm 81)), Oi 83 (.call 10 [(Tm 78), (Kn 1), (Tm 82)]), Oi 84 (.build [(.int .i64 0), (.int .i64 0), (.int .i64 0), (.int .i64 0), (.int .u64 0), (.int .u64 0), (.int .u64 0), (.int .u64 0), (.slice none 0 0)] [(0, (1, (Kn 6))), (3, (1, (Tm 83)))]), On (.store 9 (Tm 7) (Tm 84))]) .skip)))) (.seq (.seq (.ops [Mv 85 8, Op 86 (.int2 .and .i64 (Tm 85) (Kn 1)), Op 87 (.int2 .eql .i64 (Tm 86) (Kn 0))]) (.cond (Tm 87) (.seq (.ops [Oi 88 (.loadN 9 (Tm 7)), On (.store 9 (Tm 4) (Tm 88))]) .ret) .skip)) (.seq (.ops [Mv 89 6, Oi 90 (.call 10 [(Tm 89), (Kn 0), (Kn 2)]), Mv 10 90]) (.seq (.ops [Oi 11 (.mv (Kn (-1)))]) (.seq (.seq (.ops [Mv 91 6, Op 92 (.int2 .and .i64 (Tm 91) (Kn 4)), Op 93 (.int2 .eql .i64 (Tm 92) (Kn 4))]) (.cond (Tm 93) (.ops [Mv 94 10, Op 95 (.mm true (Tm 94) [(Kn 1)]), Mv 96 6, Op 97 (.int2 .quo .i64 (Tm 96) (Kn 8)), Oi 98 (.call 10 [(Tm 97), (Kn 0), (Kn 2)]), Op 99 (.int2 .add .i64 (Tm 95) (Tm 98)), Mv 11 99]) .skip)) (.seq (.ops [Mv 100 10, Mv 101 11, Oi 102 (.loadN 9 (Tm 7)), Oi 103 (.bslice 46 1 [(.int .i64 0), (.int .i64 0), (.int .i64 0), (.int .i64 0), (.int .u64 0), (.int .u64 0), (.int .u64 0), (.int .u64 0), (.slice none 0 0)] [(0, (9, (Tm 102)))]), Oi 104 (.build [(.int .i64 0), (.int .i64 0), (.int .i64 0), (.int .i64 0), (.int .u64 0), (.int .u64 0), (.int .u64 0), (.int .u64 0), (.slice none 0 0)] [(0, (1, (Kn 4))), (1, (1, (Tm 100))), (2, (1, (Tm 101))), (8, (1, (Tm 103)))]), On (.store 9 (Tm 4) (Tm 104))]) .ret))))))))))), [(.cellN 4 9)]⟩
theorem wzb : trF Try.prog 106 = some wec := by kernel_rfl
noncomputable def wce (i : Nat) : Code := lp Try.prog 132 i
noncomputable def wpj : RC := (.seq (.ops [Op 21 (.int2 .lss .i64 (Tm 20) (Kn 256))]) (.seq (.cond (Tm 21) .skip (.exit 1)) (.seq (.block 2 (.seq (.ops [Mv 22 20, Mv 5 22]) (.ops [Mv 23 4, Mv 24 5, Op 25 (.conv .u8 (Tm 24)), Oi 26 (.dyn (Tm 23) [(Tm 25)])]))) (.ops [Op 27 (.int2 .add .i64 (Tm 20) (Kn 1)), Mv 20 27]))))
theorem wfl : trC Try.prog (wce 0) = wpj := by kernel_rfl
noncomputable def wph : RC := (.seq (.ops [Op 37 (.int2 .lss .i64 (Tm 36) (Kn 256))]) (.seq (.cond (Tm 37) .skip (.exit 3)) (.seq (.block 4 (.seq (.ops [Mv 38 36, Mv 6 38]) (.seq (.ops [Mv 39 6, Op 40 (.int2 .neq .i64 (Tm 39) (Kn 97))]) (.cond (Tm 40) (.ops [Mv 41 4, Mv 42 6, Op 43 (.conv .u8 (Tm 42)), Oi 44 (.dyn (Tm 41) [(Tm 43)])]) .skip)))) (.ops [Op 45 (.int2 .add .i64 (Tm 36) (Kn 1)), Mv 36 45]))))
theorem wli : trC Try.prog (wce 1) = wph := by kernel_rfl
noncomputable def wzg : RF := ⟨47, (.seq (.ops [Oi 2 (.new [(.int .u64 0), (.int .u64 0), (.int .u64 0), (.int .u64 0)] 43)]) (.seq (.ops [Oi 3 (.new [(.int .u64 0), (.int .u64 0), (.int .u64 0), (.int .u64 0)] 43)]) (.seq (.ops [Oi 7 (.mkfn (.func 148) [] [(Tm 3)]), Mv 4 7]) (.seq (.seq (.ops [Mv 8 0, Op 9 (.int2 .quo .i64 (Tm 8) (Kn 4)), Oi 10 (.call 10 [(Tm 9), (Kn 0), (Kn 5)])]) (.block 0 (.seq (.ops [Op 19 (.int2 .eql .i64 (Tm 10) (Kn 0)), Mv 18 19]) (.cond (Tm 18) (.seq (.ops [Oi 20 (.mv (Kn 0))]) (.block 1 (.loop (wce 0)))) (.seq (.ops [Op 29 (.int2 .eql .i64 (Tm 10) (Kn 1)), Mv 28 29]) (.cond (Tm 28) (.seq (.ops [Mv 30 4, Oi 31 (.dyn (Tm 30) [(.const (.int .u8 97))])]) (.ops [Mv 32 4, Oi 33 (.dyn (Tm 32) [(.const (.int .u8 98))])])) (.seq (.ops [Op 35 (.int2 .eql .i64 (Tm 10) (Kn 2)), Mv 34 35]) (.cond (Tm 34) (.seq (.ops [Oi 36 (.mv (Kn 0))]) (.block 3 (.loop (wce 1)))) (.ops [Mv 11 4, Oi 12 (.bslice 5 6 [(.int .u8 0), (.int .u8 0), (.int .u8 0), (.int .u8 0), (.int .u8 0), (.int .u8 0)] [(0, (1, (.const (.int .u8 97)))), (1, (1, (.const (.int .u8 98)))), (2, (1, (.const (.int .u8 99)))), (3, (1, (.const (.int .u8 46)))), (4, (1, (.const (.int .u8 42)))), (5, (1, (.const (.int .u8 10))))]), Mv 13 0, Oi 14 (.call 10 [(Tm 13), (Kn 0), (Kn 5)]), Oi 15 (.iaddrS 1 (Tm 12) (Tm 14)), Oi 16 (.load1 (Tm 15)), Oi 17 (.dyn (Tm 11) [(Tm 16)])]))))))))) (.seq (.ops [Oi 46 (.loadN 4 (Tm 3)), On (.store 4 (Tm 2) (Tm 46))]) .ret))))), [(.cellN 2 4)]⟩
theorem wch : trF Try.prog 132 = some wzg := by kernel_rfl
noncomputable def wum : RF := ⟨14, (.ops [Mv 3 0, Op 4 (.int2 .quo .u8 (Tm 3) (.const (.int .u8 64))), Mv 5 0, Op 6 (.int2 .quo .u8 (Tm 5) (.const (.int .u8 64))), Oi 7 (.iaddrA 4 1 (Tm 1) (Tm 6)), Oi 8 (.load1 (Tm 7)), Mv 9 0, Op 10 (.int2 .rem .u8 (Tm 9) (.const (.int .u8 64))), Op 11 (.shift .shl (.const (.int .u64 1)) (Tm 10)), Op 12 (.int2 .or .u64 (Tm 8) (Tm 11)), Oi 13 (.iaddrA 4 1 (Tm 1) (Tm 4)), On (.store 1 (Tm 13) (Tm 12))]), []⟩
theorem wbq : trF Try.prog 148 = some wum := by kernel_rfl
noncomputable def wmk (i : Nat) : Code := lp Try.prog 21 i
noncomputable def wwl : RC := (.seq (.seq (.ops [Mv 7 6, Mv 8 0, Op 9 (.lenS (Tm 8)), Op 10 (.int2 .lss .i64 (Tm 7) (Tm 9)), Mv 11 10, Ot 12 11 (.ins (.mv (Tm 6))), Ot 13 11 (.ins (.mv (Tm 1))), Ot 14 11 (.int2 .lss .i64 (Tm 12) (Tm 13)), Oi 15 (.pick (Tm 11) (Tm 14) (Kb false))]) (.cond (Tm 15) .skip (.exit 0))) (.seq (.block 1 (.ops [Mv 18 5, Oi 19 (.bslice 5 8 [(.int .u8 0), (.int .u8 0), (.int .u8 0), (.int .u8 0), (.int .u8 0), (.int .u8 0), (.int .u8 0), (.int .u8 0)] [(0, (1, (.const (.int .u8 97)))), (1, (1, (.const (.int .u8 98)))), (2, (1, (.const (.int .u8 97)))), (3, (1, (.const (.int .u8 99)))), (4, (1, (.const (.int .u8 98)))), (5, (1, (.const (.int .u8 46)))), (6, (1, (.const (.int .u8 97)))), (7, (1, (.const (.int .u8 32))))]), Mv 20 0, Mv 21 6, Oi 22 (.iaddrS 1 (Tm 20) (Tm 21)), Oi 23 (.load1 (Tm 22)), Oi 24 (.call 10 [(Tm 23), (Kn 0), (Kn 7)]), Oi 25 (.iaddrS 1 (Tm 19) (Tm 24)), Oi 26 (.load1 (Tm 25)), Oi 27 (.bslice 5 1 [(.int .u8 0)] [(0, (1, (Tm 26)))]), Op 28 (.b2s (Tm 27)), Op 29 (.str2 .add (Tm 18) (Tm 28)), Mv 5 29])) (.ops [Mv 16 6, Op 17 (.int2 .add .i64 (Tm 16) (Kn 1)), Mv 6 17])))
theorem wvm : trC Try.prog (wmk 0) = wwl := by kernel_rfl
noncomputable def wpq : RF := ⟨31, (.seq (.ops [Oi 4 (.mv (.const (str [])))]) (.seq (.ops [Oi 5 (.mv (.const (str [])))]) (.seq (.seq (.ops [Oi 6 (.mv (Kn 0))]) (.block 0 (.loop (wmk 0)))) (.seq (.ops [Mv 30 5, Mv 4 30]) .ret)))), [(.tmp 4)]⟩
theorem wcv : trF Try.prog 21 = some wpq := by kernel_rfl
noncomputable def wso (i : Nat) : Code := lp Try.prog 37 i
noncomputable def wnt : RC := (.seq (.ops [Op 9 (.int2 .lss .i64 (Tm 8) (Tm 7))]) (.seq (.cond (Tm 9) .skip (.exit 0)) (.seq (.block 1 (.seq (.ops [Oi 10 (.iaddrS 1 (Tm 6) (Tm 8)), Oi 11 (.load1 (Tm 10)), Mv 5 11]) (.ops [Mv 12 5, Op 13 (.int2 .quo .u8 (Tm 12) (.const (.int .u8 64))), Oi 14 (.iaddrA 4 1 (Tm 3) (Tm 13)), Oi 15 (.load1 (Tm 14)), Mv 16 5, Op 17 (.int2 .rem .u8 (Tm 16) (.const (.int .u8 64))), Op 18 (.shift .shl (.const (.int .u64 1)) (Tm 17)), Op 19 (.int2 .or .u64 (Tm 15) (Tm 18)), Oi 20 (.iaddrA 4 1 (Tm 3) (Tm 13)), On (.store 1 (Tm 20) (Tm 19))]))) (.ops [Op 21 (.int2 .add .i64 (Tm 8) (Kn 1)), Mv 8 21]))))
theorem wot : trC Try.prog (wso 0) = wnt := by kernel_rfl
noncomputable def wofb : RF := ⟨23, (.seq (.ops [Oi 2 (.new [(.int .u64 0), (.int .u64 0), (.int .u64 0), (.int .u64 0)] 43)]) (.seq (.ops [Oi 3 (.new [(.int .u64 0), (.int .u64 0), (.int .u64 0), (.int .u64 0)] 43)]) (.seq (.seq (.ops [Mv 6 0, Op 7 (.lenS (Tm 6)), Oi 8 (.mv (Kn 0))]) (.block 0 (.loop (wso 0)))) (.seq (.ops [Oi 22 (.loadN 4 (Tm 3)), On (.store 4 (Tm 2) (Tm 22))]) .ret)))), [(.cellN 2 4)]⟩
theorem wbib : trF Try.prog 37 = some wofb := by kernel_rfl
noncomputable def wcn (i : Nat) : Code := lp Try.prog 31 i
noncomputable def wnm : RC := (.seq (.ops [Op 19 (.int2 .lss .i64 (Tm 18) (Tm 17))]) (.seq (.cond (Tm 19) .skip (.exit 0)) (.seq (.block 1 (.seq (.ops [Oi 20 (.iaddrS 9 (Tm 16) (Tm 18)), Oi 21 (.loadN 9 (Tm 20)), Oi 11 (.new [(.int .i64 0), (.int .i64 0), (.int .i64 0), (.int .i64 0), (.int .i64 0), (.int .i64 0), (.int .i64 0), (.int .i64 0), (.int .i64 0)] 81), On (.store 9 (Tm 11) (Tm 21))]) (.ops [Mv 22 9, Oi 23 (.faddr 0 (Tm 11)), Oi 24 (.load1 (Tm 23)), Oi 25 (.bslice 3 1 [(.int .i64 0)] [(0, (1, (Tm 24)))]), Oi 26 (.app 3 1 8 (Tm 22) (Tm 25)), Mv 9 26]))) (.ops [Op 27 (.int2 .add .i64 (Tm 18) (Kn 1)), Mv 18 27]))))
theorem wsl : trC Try.prog (wcn 0) = wnm := by kernel_rfl
noncomputable def wmw : RF := ⟨32, (.seq (.ops [Oi 4 (.box 46 (Tm 0)), Oi 8 (.mv (.const (.slice none 0 0)))]) (.seq (.ops [Oi 9 (.mv (.const (.slice none 0 0)))]) (.seq (.seq (.ops [Oi 12 (.loadN 9 (Tm 4)), Mv 13 1, Mv 14 2, Mv 15 3, Oi 16 (.call 30 [(Tm 12), (Tm 13), (Tm 14), (Tm 15)]), Op 17 (.lenS (Tm 16)), Oi 18 (.mv (Kn 0))]) (.block 0 (.loop (wcn 0)))) (.seq (.ops [Mv 28 9, Oi 29 (.call 68 [(Tm 28)])]) (.seq (.ops [Mv 30 9, Oi 31 (.call 69 [(Tm 30)]), Mv 8 31]) .ret))))), [(.tmp 8)]⟩
theorem wqv : trF Try.prog 31 = some wmw := by kernel_rfl
noncomputable def wqj : RF := ⟨11, (.seq (.ops [Mv 3 0, Op 4 (.lenS (Tm 3)), Mv 2 4]) (.ops [Mv 5 0, Mv 6 2, Mv 7 2, Op 8 (.conv .u64 (Tm 7)), Oi 9 (.call 100 [(Tm 8)]), Oi 10 (.call 99 [(Tm 5), (Kn 0), (Tm 6), (Tm 9)])])), []⟩
theorem wgl : trF Try.prog 68 = some wqj := by kernel_rfl
noncomputable def wef (i : Nat) : Code := lp Try.prog 69 i
noncomputable def wmh : RC := (.seq (.seq (.ops [Mv 10 3, Mv 11 0, Op 12 (.lenS (Tm 11)), Op 13 (.int2 .lss .i64 (Tm 10) (Tm 12))]) (.cond (Tm 13) .skip (.exit 0))) (.seq (.block 1 (.seq (.draw #[0, 0, 3, 7, 0, 0, 32, 112, 240, 511] [Mv 16 0, Mv 17 3, Oi 18 (.iaddrS 1 (Tm 16) (Tm 17)), Oi 19 (.load1 (Tm 18)), Mv 20 0, Mv 21 3, Op 22 (.int2 .sub .i64 (Tm 21) (Kn 1)), Oi 23 (.iaddrS 1 (Tm 20) (Tm 22)), Oi 24 (.load1 (Tm 23)), Op 25 (.int2 .eql .i64 (Tm 19) (Tm 24))]) (.cond (Tm 25) (.seq (.ops [Mv 26 0, Mv 27 3, Op 28 (.slS 1 (Tm 26) (some (Tm 27)) none none), Mv 4 28]) (.seq (.seq (.ops [Oi 5 (.mv (Kn 1))]) (.block 2 (.loop (wef 1)))) (.seq (.ops [Mv 54 0, Mv 55 3, Op 56 (.slS 1 (Tm 54) (some (Tm 55)) none none), ⟨none, none, .bad⟩]) (.seq (.ops [Mv 57 0, Mv 58 3, Op 59 (.slS 1 (Tm 57) none (some (Tm 58)) none), Mv 2 59]) .ret)))) .skip))) (.ops [Mv 14 3, Op 15 (.int2 .add .i64 (Tm 14) (Kn 1)), Mv 3 15])))
theorem wcj : trC Try.prog (wef 0) = wmh := by kernel_rfl
noncomputable def wmi : RF := ⟨61, (.seq (.ops [Oi 2 (.mv (.const (.slice none 0 0)))]) (.seq (.seq (.ops [Mv 6 0, Op 7 (.lenS (Tm 6)), Op 8 (.int2 .lss .i64 (Tm 7) (Kn 2))]) (.cond (Tm 8) (.seq (.ops [Mv 9 0, Mv 2 9]) .ret) .skip)) (.seq (.seq (.ops [Oi 3 (.mv (Kn 1))]) (.block 0 (.loop (wef 0)))) (.seq (.ops [Mv 60 0, Mv 2 60]) .ret)))), [(.tmp 2)]⟩
theorem wek : trF Try.prog 69 = some wmi := by kernel_rfl
noncomputable def whs : RF := ⟨6, (.seq (.ops [Oi 2 (.mv (Kb false))]) (.seq (.ops [Mv 3 0, Mv 4 0, Op 5 (.int2 .neq .i64 (Tm 3) (Tm 4)), Mv 2 5]) .ret)), [(.tmp 2)]⟩
theorem wnw : trF Try.prog 78 = some whs := by kernel_rfl
noncomputable def wee (i : Nat) : Code := lp Try.prog 99 i
noncomputable def wag : RC := (.block 1 (.seq (.ops [Mv 19 2, Mv 20 1, Op 21 (.int2 .sub .i64 (Tm 19) (Tm 20)), Mv 10 21]) (.seq (.seq (.ops [Mv 22 10, Op 23 (.int2 .leq .i64 (Tm 22) (Kn 12))]) (.cond (Tm 23) (.seq (.ops [Mv 24 0, Mv 25 1, Mv 26 2, Oi 27 (.call 115 [(Tm 24), (Tm 25), (Tm 26)])]) .ret) .skip)) (.seq (.seq (.ops [Mv 28 3, Op 29 (.int2 .eql .i64 (Tm 28) (Kn 0))]) (.cond (Tm 29) (.seq (.ops [Mv 30 0, Mv 31 1, Mv 32 2, Oi 33 (.call 116 [(Tm 30), (Tm 31), (Tm 32)])]) .ret) .skip)) (.seq (.seq (.ops [Mv 34 8, Op 35 (.un .not (Tm 34))]) (.cond (Tm 35) (.seq (.ops [Mv 36 0, Mv 37 1, Mv 38 2, Oi 39 (.call 117 [(Tm 36), (Tm 37), (Tm 38)])]) (.ops [Mv 40 3, Op 41 (.int2 .sub .i64 (Tm 40) (Kn 1)), Mv 3 41])) .skip)) (.seq (.ops [Mv 43 0, Mv 44 1, Mv 45 2, Oi 46 (.call 118 [(Tm 43), (Tm 44), (Tm 45)]), Mv 42 46, Oi 47 (.ext (Tm 42) 0), Oi 48 (.ext (Tm 42) 1), Mv 11 47, Mv 12 48]) (.seq (.seq (.ops [Mv 49 12, Op 50 (.int2 .eql .i64 (Tm 49) (Kn 2))]) (.cond (Tm 50) (.seq (.ops [Mv 51 0, Mv 52 1, Mv 53 2, Oi 54 (.call 119 [(Tm 51), (Tm 52), (Tm 53)])]) (.seq (.ops [Mv 55 2, Op 56 (.int2 .sub .i64 (Tm 55) (Kn 1)), Mv 57 11, Mv 58 1, Op 59 (.int2 .sub .i64 (Tm 57) (Tm 58)), Op 60 (.int2 .sub .i64 (Tm 56) (Tm 59)), Mv 11 60]) (.ops [Oi 12 (.mv (Kn 1))]))) .skip)) (.seq (.seq (.ops [Mv 61 8, Mv 62 61, Ot 63 62 (.ins (.mv (Tm 9))), Oi 64 (.pick (Tm 62) (Tm 63) (Kb false)), Mv 65 64, Ot 66 65 (.ins (.mv (Tm 12))), Ot 67 65 (.int2 .eql .i64 (Tm 66) (Kn 1)), Oi 68 (.pick (Tm 65) (Tm 67) (Kb false))]) (.cond (Tm 68) (.seq (.ops [Mv 69 0, Mv 70 1, Mv 71 2, Oi 72 (.call 120 [(Tm 69), (Tm 70), (Tm 71)])]) (.cond (Tm 72) .ret .skip)) .skip)) (.seq (.seq (.draw #[0, 1, 3, 7, 7, 23, 63, 127, 7, 7, 775, 1799, 4095, 8191, 16383] [Mv 73 1, Op 74 (.int2 .gtr .i64 (Tm 73) (Kn 0)), Mv 75 74, Ot 76 75 (.ins (.mv (Tm 0))), Ot 77 75 (.ins (.mv (Tm 1))), Ot 78 75 (.int2 .sub .i64 (Tm 77) (Kn 1)), Ot 79 75 (.ins (.iaddrS 1 (Tm 76) (Tm 78))), Ot 80 75 (.ins (.load1 (Tm 79))), Ot 81 75 (.ins (.mv (Tm 0))), Ot 82 75 (.ins (.mv (Tm 11))), Ot 83 75 (.ins (.iaddrS 1 (Tm 81) (Tm 82))), Ot 84 75 (.ins (.load1 (Tm 83))), Ot 85 75 (.ins (.call 121 [(Tm 80), (Tm 84)])), Ot 86 75 (.un .not (Tm 85)), Oi 87 (.pick (Tm 75) (Tm 86) (Kb false))]) (.cond (Tm 87) (.seq (.ops [Mv 88 0, Mv 89 1, Mv 90 2, Mv 91 11, Oi 92 (.call 122 [(Tm 88), (Tm 89), (Tm 90), (Tm 91)]), Mv 13 92]) (.seq (.ops [Mv 93 13, Mv 1 93]) (.exit 1))) .skip)) (.seq (.ops [Mv 95 0, Mv 96 1, Mv 97 2, Mv 98 11, Oi 99 (.call 123 [(Tm 95), (Tm 96), (Tm 97), (Tm 98)]), Mv 94 99, Oi 100 (.ext (Tm 94) 0), Oi 101 (.ext (Tm 94) 1), Mv 14 100, Mv 15 101]) (.seq (.ops [Mv 102 15, Mv 9 102]) (.seq (.ops [Mv 103 14, Mv 104 1, Op 105 (.int2 .sub .i64 (Tm 103) (Tm 104)), Mv 106 2, Mv 107 14, Op 108 (.int2 .sub .i64 (Tm 106) (Tm 107)), Mv 16 105, Mv 17 108]) (.seq (.ops [Mv 109 10, Op 110 (.int2 .quo .i64 (Tm 109) (Kn 8)), Mv 18 110]) (.seq (.ops [Mv 111 16, Mv 112 17, Op 113 (.int2 .lss .i64 (Tm 111) (Tm 112))]) (.cond (Tm 113) (.seq (.ops [Mv 114 16, Mv 115 18, Op 116 (.int2 .geq .i64 (Tm 114) (Tm 115)), Mv 8 116]) (.seq (.ops [Mv 117 0, Mv 118 1, Mv 119 14, Mv 120 3, Oi 121 (.call 99 [(Tm 117), (Tm 118), (Tm 119), (Tm 120)])]) (.ops [Mv 122 14, Op 123 (.int2 .add .i64 (Tm 122) (Kn 1)), Mv 1 123]))) (.seq (.ops [Mv 124 17, Mv 125 18, Op 126 (.int2 .geq .i64 (Tm 124) (Tm 125)), Mv 8 126]) (.seq (.ops [Mv 127 0, Mv 128 14, Op 129 (.int2 .add .i64 (Tm 128) (Kn 1)), Mv 130 2, Mv 131 3, Oi 132 (.call 99 [(Tm 127), (Tm 129), (Tm 130), (Tm 131)])]) (.ops [Mv 133 14, Mv 2 133]))))))))))))))))))
theorem wii : trC Try.prog (wee 0) = wag := by kernel_rfl
noncomputable def wdh : RF := ⟨134, (.seq (.ops [Oi 8 (.mv (Kb true))]) (.seq (.ops [Oi 9 (.mv (Kb true))]) (.block 0 (.loop (wee 0))))), []⟩
theorem wyi : trF Try.prog 99 = some wdh := by kernel_rfl
noncomputable def wis : RF := ⟨8, (.seq (.ops [Oi 2 (.mv (Kn 0))]) (.seq (.cond (Kb false) (.seq (.ops [Mv 3 0, Op 4 (.conv .u32 (Tm 3)), Oi 5 (.call 124 [(Tm 4)]), Mv 2 5]) .ret) .skip) (.seq (.ops [Mv 6 0, Oi 7 (.call 125 [(Tm 6)]), Mv 2 7]) .ret))), [(.tmp 2)]⟩
theorem wow : trF Try.prog 100 = some wis := by kernel_rfl
noncomputable def wpb (i : Nat) : Code := lp Try.prog 115 i
noncomputable def wmd : RC := (.seq (.seq (.draw #[0, 0, 3, 7, 15, 15, 63, 127, 15, 15, 527, 1807, 3855, 8191, 16383] [Mv 16 7, Mv 17 1, Op 18 (.int2 .gtr .i64 (Tm 16) (Tm 17)), Mv 19 18, Ot 20 19 (.ins (.mv (Tm 0))), Ot 21 19 (.ins (.mv (Tm 7))), Ot 22 19 (.ins (.iaddrS 1 (Tm 20) (Tm 21))), Ot 23 19 (.ins (.load1 (Tm 22))), Ot 24 19 (.ins (.mv (Tm 0))), Ot 25 19 (.ins (.mv (Tm 7))), Ot 26 19 (.int2 .sub .i64 (Tm 25) (Kn 1)), Ot 27 19 (.ins (.iaddrS 1 (Tm 24) (Tm 26))), Ot 28 19 (.ins (.load1 (Tm 27))), Ot 29 19 (.ins (.call 121 [(Tm 23), (Tm 28)])), Oi 30 (.pick (Tm 19) (Tm 29) (Kb false))]) (.cond (Tm 30) .skip (.exit 2))) (.seq (.block 3 (.draw #[0, 0, 0, 0, 8, 0, 0, 64, 224, 480, 0, 0, 3072, 7168, 16355, 32739, 65535, 131071] [Mv 33 0, Mv 34 7, Mv 35 0, Mv 36 7, Op 37 (.int2 .sub .i64 (Tm 36) (Kn 1)), Mv 38 0, Mv 39 7, Op 40 (.int2 .sub .i64 (Tm 39) (Kn 1)), Oi 41 (.iaddrS 1 (Tm 38) (Tm 40)), Oi 42 (.load1 (Tm 41)), Mv 43 0, Mv 44 7, Oi 45 (.iaddrS 1 (Tm 43) (Tm 44)), Oi 46 (.load1 (Tm 45)), Oi 47 (.iaddrS 1 (Tm 33) (Tm 34)), On (.store 1 (Tm 47) (Tm 42)), Oi 48 (.iaddrS 1 (Tm 35) (Tm 37)), On (.store 1 (Tm 48) (Tm 46))])) (.ops [Mv 31 7, Op 32 (.int2 .sub .i64 (Tm 31) (Kn 1)), Mv 7 32])))
theorem whe : trC Try.prog (wpb 1) = wmd := by kernel_rfl
noncomputable def wnd : RC := (.seq (.seq (.ops [Mv 10 6, Mv 11 2, Op 12 (.int2 .lss .i64 (Tm 10) (Tm 11))]) (.cond (Tm 12) .skip (.exit 0))) (.seq (.block 1 (.seq (.ops [Mv 15 6, Mv 7 15]) (.block 2 (.loop (wpb 1))))) (.ops [Mv 13 6, Op 14 (.int2 .add .i64 (Tm 13) (Kn 1)), Mv 6 14])))
theorem wie : trC Try.prog (wpb 0) = wnd := by kernel_rfl
noncomputable def wkf : RF := ⟨49, (.seq (.ops [Mv 8 1, Op 9 (.int2 .add .i64 (Tm 8) (Kn 1)), Mv 6 9]) (.block 0 (.loop (wpb 0)))), []⟩
theorem wah : trF Try.prog 115 = some wkf := by kernel_rfl
noncomputable def wpt : RF := ⟨17, (.seq (.ops [Oi 4 (.mv (Kb false))]) (.seq (.ops [Mv 5 0, Oi 6 (.call 78 [(Tm 5)]), Mv 7 6, Ot 8 7 (.ins (.mv (Tm 1))), Ot 9 7 (.ins (.call 78 [(Tm 8)])), Ot 10 7 (.un .not (Tm 9)), Oi 11 (.pick (Tm 7) (Tm 10) (Kb false)), Mv 12 11, Of 13 12 (.ins (.mv (Tm 0))), Of 14 12 (.ins (.mv (Tm 1))), Of 15 12 (.int2 .lss .i64 (Tm 13) (Tm 14)), Oi 16 (.pick (Tm 12) (Kb true) (Tm 15)), Mv 4 16]) .ret)), [(.tmp 4)]⟩
theorem wdy : trF Try.prog 121 = some wpt := by kernel_rfl
noncomputable def wdb (i : Nat) : Code := lp Try.prog 7 i
noncomputable def wrj : RC := (.seq (.ops [Op 82 (.int2 .lss .i64 (Tm 81) (Tm 80))]) (.seq (.cond (Tm 82) .skip (.exit 0)) (.seq (.block 1 (.seq (.ops [Oi 83 (.iaddrS 1 (Tm 79) (Tm 81)), Oi 84 (.load1 (Tm 83)), Mv 19 84]) (.ops [Mv 85 17, Mv 86 19, On (.upd 3 (Tm 85) (Tm 86) (Kb true))]))) (.ops [Op 87 (.int2 .add .i64 (Tm 81) (Kn 1)), Mv 81 87]))))
theorem whl : trC Try.prog (wdb 0) = wrj := by kernel_rfl
noncomputable def wsj : RC := (.seq (.ops [Op 94 (.int2 .lss .i64 (Tm 93) (Tm 92))]) (.seq (.cond (Tm 94) .skip (.exit 2)) (.seq (.block 3 (.seq (.ops [Oi 95 (.iaddrS 1 (Tm 91) (Tm 93)), Oi 96 (.load1 (Tm 95)), Mv 21 96]) (.ops [Mv 97 17, Mv 98 21, On (.upd 3 (Tm 97) (Tm 98) (Kb true))]))) (.ops [Op 99 (.int2 .add .i64 (Tm 93) (Kn 1)), Mv 93 99]))))
theorem wil : trC Try.prog (wdb 1) = wsj := by kernel_rfl
noncomputable def wtj : RC := (.seq (.ops [Op 124 (.int2 .lss .i64 (Tm 123) (Tm 122))]) (.seq (.cond (Tm 124) .skip (.exit 6)) (.seq (.block 7 (.seq (.ops [Oi 125 (.iaddrS 1 (Tm 121) (Tm 123)), Oi 126 (.load1 (Tm 125)), Mv 26 126]) (.ops [Mv 127 22, Mv 128 26, On (.upd 3 (Tm 127) (Tm 128) (Kb true))]))) (.ops [Op 129 (.int2 .add .i64 (Tm 123) (Kn 1)), Mv 123 129]))))
theorem wjl : trC Try.prog (wdb 3) = wtj := by kernel_rfl
noncomputable def wuj : RC := (.seq (.ops [Op 115 (.int2 .lss .i64 (Tm 114) (Tm 113))]) (.seq (.cond (Tm 115) .skip (.exit 4)) (.seq (.block 5 (.seq (.ops [Oi 116 (.iaddrS 1 (Tm 112) (Tm 114)), Oi 117 (.load1 (Tm 116)), Mv 24 117]) (.seq (.ops [Oi 118 (.loadN 9 (Tm 12)), Mv 119 9, Mv 120 24, Oi 121 (.call 31 [(Tm 118), (Tm 119), (Kb true), (Tm 120)]), Op 122 (.lenS (Tm 121)), Oi 123 (.mv (Kn 0))]) (.block 6 (.loop (wdb 3)))))) (.ops [Op 130 (.int2 .add .i64 (Tm 114) (Kn 1)), Mv 114 130]))))
theorem wkl : trC Try.prog (wdb 2) = wuj := by kernel_rfl
noncomputable def wvj : RC := (.seq (.ops [Op 137 (.int2 .lss .i64 (Tm 136) (Tm 135))]) (.seq (.cond (Tm 137) .skip (.exit 8)) (.seq (.block 9 (.seq (.ops [Oi 138 (.iaddrS 1 (Tm 134) (Tm 136)), Oi 139 (.load1 (Tm 138)), Mv 28 139]) (.seq (.seq (.ops [Mv 140 22, Mv 141 28, Op 142 (.look 3 (.bool false) false (Tm 140) (Tm 141)), Op 143 (.un .not (Tm 142))]) (.cond (Tm 143) (.seq (.ops [Oi 8 (.mv (Kb false))]) .ret) .skip)) (.ops [Mv 144 22, Mv 145 28, On (.del 3 (Tm 144) (Tm 145))])))) (.ops [Op 146 (.int2 .add .i64 (Tm 136) (Kn 1)), Mv 136 146]))))
theorem wll : trC Try.prog (wdb 4) = wvj := by kernel_rfl
noncomputable def wqh : RC := (.seq (.ops [Op 182 (.int2 .lss .i64 (Tm 181) (Tm 180))]) (.seq (.cond (Tm 182) .skip (.exit 12)) (.seq (.block 13 (.seq (.ops [Oi 183 (.iaddrS 2 (Tm 179) (Tm 181)), Oi 184 (.loadN 2 (Tm 183)), Oi 34 (.new [(.int .i64 0), (.int .i64 0)] 50), On (.store 2 (Tm 34) (Tm 184))]) (.seq (.ops [Oi 185 (.faddr 0 (Tm 34)), Oi 186 (.load1 (Tm 185)), Op 187 (.int2 .lss .i64 (Tm 186) (Kn 0)), Oi 188 (.faddr 1 (Tm 34)), Oi 189 (.load1 (Tm 188)), Op 190 (.int2 .lss .i64 (Tm 189) (Kn 0)), Op 191 (.eqb true (Tm 187) (Tm 190)), Mv 192 191, Of 193 192 (.ins (.faddr 0 (Tm 34))), Of 194 192 (.ins (.load1 (Tm 193))), Of 195 192 (.ins (.faddr 1 (Tm 34))), Of 196 192 (.ins (.load1 (Tm 195))), Of 197 192 (.int2 .gtr .i64 (Tm 194) (Tm 196)), Oi 198 (.pick (Tm 192) (Kb true) (Tm 197)), Mv 199 198, Of 200 199 (.ins (.faddr 1 (Tm 34))), Of 201 199 (.ins (.load1 (Tm 200))), Of 202 199 (.ins (.faddr 0 (Tm 32))), Of 203 199 (.ins (.load1 (Tm 202))), Of 204 199 (.int2 .gtr .i64 (Tm 201) (Tm 203)), Oi 205 (.pick (Tm 199) (Kb true) (Tm 204)), Mv 206 205, Of 207 206 (.ins (.faddr 0 (Tm 34))), Of 208 206 (.ins (.load1 (Tm 207))), Of 209 206 (.int2 .geq .i64 (Tm 208) (Kn 0)), Of 210 206 (.ins (.mv (Tm 209))), Ot 211 210 (.ins (.faddr 0 (Tm 34))), Ot 212 210 (.ins (.load1 (Tm 211))), Ot 213 210 (.ins (.mv (Tm 10))), Ot 214 210 (.int2 .lss .i64 (Tm 212) (Tm 213)), Of 215 206 (.ins (.pick (Tm 210) (Tm 214) (Kb false))), Oi 216 (.pick (Tm 206) (Kb true) (Tm 215))]) (.cond (Tm 216) (.seq (.ops [Oi 8 (.mv (Kb false))]) .ret) .skip)))) (.ops [Op 217 (.int2 .add .i64 (Tm 181) (Kn 1)), Mv 181 217]))))
theorem wni : trC Try.prog (wdb 6) = wqh := by kernel_rfl
noncomputable def wwj : RC := (.seq (.ops [Op 157 (.int2 .lss .i64 (Tm 156) (Tm 155))]) (.seq (.cond (Tm 157) .skip (.exit 10)) (.seq (.block 11 (.seq (.ops [Oi 158 (.iaddrS 9 (Tm 154) (Tm 156)), Oi 159 (.loadN 9 (Tm 158)), Oi 32 (.new [(.int .i64 0), (.int .i64 0), (.int .i64 0), (.int .i64 0), (.int .i64 0), (.int .i64 0), (.int .i64 0), (.int .i64 0), (.int .i64 0)] 81), On (.store 9 (Tm 32) (Tm 159))]) (.seq (.seq (.ops [Oi 160 (.faddr 0 (Tm 32)), Oi 161 (.load1 (Tm 160)), Mv 162 10, Op 163 (.int2 .lss .i64 (Tm 161) (Tm 162)), Mv 164 163, Of 165 164 (.ins (.faddr 0 (Tm 32))), Of 166 164 (.ins (.load1 (Tm 165))), Of 167 164 (.ins (.mv (Tm 9))), Of 168 164 (.slen (Tm 167)), Of 169 164 (.int2 .gtr .i64 (Tm 166) (Tm 168)), Oi 170 (.pick (Tm 164) (Kb true) (Tm 169)), Mv 171 170, Of 172 171 (.ins (.faddr 1 (Tm 32))), Of 173 171 (.ins (.iaddrA 4 2 (Tm 172) (Kn 0))), Of 174 171 (.ins (.loadN 2 (Tm 173))), Of 175 171 (.ins (.build [(.int .i64 0), (.int .i64 0)] [(0, (1, (Kn (-1)))), (1, (1, (Kn (-1))))])), Of 176 171 (.eqc true [(.int .i64), (.int .i64)] (Tm 174) (Tm 175)), Oi 177 (.pick (Tm 171) (Kb true) (Tm 176))]) (.cond (Tm 177) (.seq (.ops [Oi 8 (.mv (Kb false))]) .ret) .skip)) (.seq (.ops [Oi 178 (.faddr 1 (Tm 32)), Oi 179 (.slA 4 2 (Tm 178) (some (Kn 1)) none), Op 180 (.lenS (Tm 179)), Oi 181 (.mv (Kn 0))]) (.block 12 (.loop (wdb 6))))))) (.ops [Op 218 (.int2 .add .i64 (Tm 156) (Kn 1)), Mv 156 218]))))
theorem wml : trC Try.prog (wdb 5) = wwj := by kernel_rfl
noncomputable def wio : RF := ⟨246, (.seq (.ops [Oi 4 (.box 40 (Tm 0)), Oi 5 (.box 40 (Tm 1)), Oi 8 (.mv (Kb false))]) (.seq (.ops [Mv 35 2, Oi 36 (.call 21 [(Tm 35), (Kn 8)]), Mv 9 36]) (.seq (.ops [Mv 37 3, Mv 38 9, Op 39 (.slen (Tm 38)), Oi 40 (.call 10 [(Tm 37), (Kn 0), (Tm 39)]), Mv 10 40]) (.seq (.ops [Oi 41 (.bslice 5 2 [(.int .u8 0), (.int .u8 0)] [(0, (1, (.const (.int .u8 97)))), (1, (1, (.const (.int .u8 98))))]), Oi 42 (.call 37 [(Tm 41)]), Oi 43 (.build [(.int .i64 0), (.int .i64 0), (.int .i64 0), (.int .i64 0), (.int .u64 0), (.int .u64 0), (.int .u64 0), (.int .u64 0), (.slice none 0 0)] [(0, (1, (Kn 1))), (4, (4, (Tm 42)))]), Oi 11 (.new [(.int .i64 0), (.int .i64 0), (.int .i64 0), (.int .i64 0), (.int .u64 0), (.int .u64 0), (.int .u64 0), (.int .u64 0), (.slice none 0 0)] 46), On (.store 9 (Tm 11) (Tm 43))]) (.seq (.ops [Oi 44 (.bslice 5 2 [(.int .u8 0), (.int .u8 0)] [(0, (1, (.const (.int .u8 98)))), (1, (1, (.const (.int .u8 99))))]), Oi 45 (.call 37 [(Tm 44)]), Oi 46 (.build [(.int .i64 0), (.int .i64 0), (.int .i64 0), (.int .i64 0), (.int .u64 0), (.int .u64 0), (.int .u64 0), (.int .u64 0), (.slice none 0 0)] [(0, (1, (Kn 1))), (4, (4, (Tm 45)))]), Oi 12 (.new [(.int .i64 0), (.int .i64 0), (.int .i64 0), (.int .i64 0), (.int .u64 0), (.int .u64 0), (.int .u64 0), (.int .u64 0), (.slice none 0 0)] 46), On (.store 9 (Tm 12) (Tm 46))]) (.seq (.seq (.ops [Oi 47 (.faddr 0 (Tm 4)), Oi 48 (.load1 (Tm 47)), Op 49 (.lenS (Tm 48)), Mv 13 49]) (.seq (.ops [Mv 50 13, Op 51 (.int2 .gtr .i64 (Tm 50) (Kn 0)), Mv 52 51, Ot 53 52 (.ins (.faddr 0 (Tm 4))), Ot 54 52 (.ins (.load1 (Tm 53))), Ot 55 52 (.ins (.iaddrS 1 (Tm 54) (Kn 0))), Ot 56 52 (.ins (.load1 (Tm 55))), Ot 57 52 (.int2 .and .i64 (Tm 56) (Kn 1)), Ot 58 52 (.int2 .eql .i64 (Tm 57) (Kn 1)), Oi 59 (.pick (Tm 52) (Tm 58) (Kb false))]) (.cond (Tm 59) (.ops [Oi 60 (.faddr 4 (Tm 11)), Oi 61 (.loadN 4 (Tm 60)), Oi 62 (.call 38 [(Tm 61)]), Oi 63 (.faddr 4 (Tm 11)), On (.store 4 (Tm 63) (Tm 62))]) .skip))) (.seq (.ops [Oi 64 (.loadN 9 (Tm 11)), Oi 65 (.bslice 46 1 [(.int .i64 0), (.int .i64 0), (.int .i64 0), (.int .i64 0), (.int .u64 0), (.int .u64 0), (.int .u64 0), (.int .u64 0), (.slice none 0 0)] [(0, (9, (Tm 64)))]), Oi 66 (.build [(.int .i64 0), (.int .i64 0), (.int .i64 0), (.int .i64 0), (.int .u64 0), (.int .u64 0), (.int .u64 0), (.int .u64 0), (.slice none 0 0)] [(0, (1, (Kn 4))), (2, (1, (Kn (-1)))), (8, (1, (Tm 65)))]), Oi 14 (.new [(.int .i64 0), (.int .i64 0), (.int .i64 0), (.int .i64 0), (.int .u64 0), (.int .u64 0), (.int .u64 0), (.int .u64 0), (.slice none 0 0)] 46), On (.store 9 (Tm 14) (Tm 66))]) (.seq (.ops [Oi 67 (.loadN 9 (Tm 14)), Oi 68 (.loadN 9 (Tm 12)), Oi 69 (.bslice 46 2 [(.int .i64 0), (.int .i64 0), (.int .i64 0), (.int .i64 0), (.int .u64 0), (.int .u64 0), (.int .u64 0), (.int .u64 0), (.slice none 0 0), (.int .i64 0), (.int .i64 0), (.int .i64 0), (.int .i64 0), (.int .u64 0), (.int .u64 0), (.int .u64 0), (.int .u64 0), (.slice none 0 0)] [(0, (9, (Tm 67))), (9, (9, (Tm 68)))]), Oi 70 (.build [(.int .i64 0), (.int .i64 0), (.int .i64 0), (.int .i64 0), (.int .u64 0), (.int .u64 0), (.int .u64 0), (.int .u64 0), (.slice none 0 0)] [(0, (1, (Kn 3))), (8, (1, (Tm 69)))]), Oi 15 (.new [(.int .i64 0), (.int .i64 0), (.int .i64 0), (.int .i64 0), (.int .u64 0), (.int .u64 0), (.int .u64 0), (.int .u64 0), (.slice none 0 0)] 46), On (.store 9 (Tm 15) (Tm 70))]) (.seq (.ops [Oi 71 (.loadN 9 (Tm 14)), Oi 72 (.loadN 9 (Tm 12)), Oi 73 (.bslice 46 2 [(.int .i64 0), (.int .i64 0), (.int .i64 0), (.int .i64 0), (.int .u64 0), (.int .u64 0), (.int .u64 0), (.int .u64 0), (.slice none 0 0), (.int .i64 0), (.int .i64 0), (.int .i64 0), (.int .i64 0), (.int .u64 0), (.int .u64 0), (.int .u64 0), (.int .u64 0), (.slice none 0 0)] [(0, (9, (Tm 71))), (9, (9, (Tm 72)))]), Oi 74 (.build [(.int .i64 0), (.int .i64 0), (.int .i64 0), (.int .i64 0), (.int .u64 0), (.int .u64 0), (.int .u64 0), (.int .u64 0), (.slice none 0 0)] [(0, (1, (Kn 2))), (8, (1, (Tm 73)))]), Oi 16 (.new [(.int .i64 0), (.int .i64 0), (.int .i64 0), (.int .i64 0), (.int .u64 0), (.int .u64 0), (.int .u64 0), (.int .u64 0), (.slice none 0 0)] 46), On (.store 9 (Tm 16) (Tm 74))]) (.seq (.ops [Oi 75 .mkmap, Mv 17 75]) (.seq (.seq (.ops [Oi 76 (.loadN 9 (Tm 14)), Mv 77 9, Mv 78 10, Oi 79 (.call 31 [(Tm 76), (Tm 77), (Kb true), (Tm 78)]), Op 80 (.lenS (Tm 79)), Oi 81 (.mv (Kn 0))]) (.block 0 (.loop (wdb 0)))) (.seq (.seq (.ops [Oi 88 (.loadN 9 (Tm 12)), Mv 89 9, Mv 90 10, Oi 91 (.call 31 [(Tm 88), (Tm 89), (Kb true), (Tm 90)]), Op 92 (.lenS (Tm 91)), Oi 93 (.mv (Kn 0))]) (.block 2 (.loop (wdb 1)))) (.seq (.seq (.ops [Oi 100 (.loadN 9 (Tm 15)), Mv 101 9, Mv 102 10, Oi 103 (.call 31 [(Tm 100), (Tm 101), (Kb true), (Tm 102)]), Op 104 (.lenS (Tm 103)), Mv 105 17, Op 106 (.lenM (Tm 105)), Op 107 (.int2 .neq .i64 (Tm 104) (Tm 106))]) (.cond (Tm 107) (.seq (.ops [Oi 8 (.mv (Kb false))]) .ret) .skip)) (.seq (.ops [Oi 108 .mkmap, Mv 22 108]) (.seq (.seq (.ops [Oi 109 (.loadN 9 (Tm 14)), Mv 110 9, Mv 111 10, Oi 112 (.call 31 [(Tm 109), (Tm 110), (Kb true), (Tm 111)]), Op 113 (.lenS (Tm 112)), Oi 114 (.mv (Kn 0))]) (.block 4 (.loop (wdb 2)))) (.seq (.seq (.ops [Oi 131 (.loadN 9 (Tm 16)), Mv 132 9, Mv 133 10, Oi 134 (.call 31 [(Tm 131), (Tm 132), (Kb true), (Tm 133)]), Op 135 (.lenS (Tm 134)), Oi 136 (.mv (Kn 0))]) (.block 8 (.loop (wdb 4)))) (.seq (.ops [Oi 147 (.loadN 2 (Tm 5)), Oi 148 (.call 20 [(Tm 147), (Kb true)]), Oi 29 (.new [(.int .i64 0), (.int .i64 0), (.int .i64 0), (.int .i64 0), (.int .u64 0), (.int .u64 0), (.int .u64 0), (.int .u64 0), (.slice none 0 0)] 46), On (.store 9 (Tm 29) (Tm 148))]) (.seq (.ops [Oi 149 (.mkslice 5 1 1 [(.int .u8 0)] (Kn 61) (Kn 61)), Op 150 (.b2s (Tm 149)), Mv 30 150]) (.seq (.seq (.ops [Oi 151 (.loadN 9 (Tm 29)), Mv 152 9, Mv 153 10, Oi 154 (.call 30 [(Tm 151), (Tm 152), (Kb true), (Tm 153)]), Op 155 (.lenS (Tm 154)), Oi 156 (.mv (Kn 0))]) (.block 10 (.loop (wdb 5)))) (.seq (.ops [Mv 219 22, Op 220 (.lenM (Tm 219)), Op 221 (.int2 .eql .i64 (Tm 220) (Kn 0)), Mv 222 221, Ot 223 222 (.ins (.loadN 9 (Tm 29))), Ot 224 222 (.ins (.mv (Tm 30))), Ot 225 222 (.ins (.call 30 [(Tm 223), (Tm 224), (Kb true), (Kn 0)])), Ot 226 222 (.lenS (Tm 225)), Ot 227 222 (.int2 .eql .i64 (Tm 226) (Kn 0)), Oi 228 (.pick (Tm 222) (Tm 227) (Kb false)), Mv 229 228, Ot 230 229 (.ins (.build [(.int .i64 0), (.int .i64 0), (.int .i64 0), (.int .i64 0), (.int .u64 0), (.int .u64 0), (.int .u64 0), (.int .u64 0), (.slice none 0 0)] [])), Ot 231 229 (.ins (.mv (Tm 9))), Ot 232 229 (.ins (.call 30 [(Tm 230), (Tm 231), (Kb true), (Kn 0)])), Ot 233 229 (.lenS (Tm 232)), Ot 234 229 (.int2 .eql .i64 (Tm 233) (Kn 0)), Oi 235 (.pick (Tm 229) (Tm 234) (Kb false)), Mv 236 235, Ot 237 236 (.ins (.loadN 9 (Tm 29))), Ot 238 236 (.ins (.mv (Tm 9))), Ot 239 236 (.ins (.call 30 [(Tm 237), (Tm 238), (Kb true), (Kn (-1))])), Ot 240 236 (.lenS (Tm 239)), Ot 241 236 (.int2 .eql .i64 (Tm 240) (Kn 0)), Oi 242 (.pick (Tm 236) (Tm 241) (Kb false)), Mv 243 242, Ot 244 243 (.ins (.call 39 [])), Oi 245 (.pick (Tm 243) (Tm 244) (Kb false)), Mv 8 245]) .ret)))))))))))))))))))), [(.tmp 8)]⟩
theorem wtr : trF Try.prog 7 = some wio := by kernel_rfl
noncomputable def wsp : RF := ⟨25, (.seq (.ops [Oi 2 (.mv (Kn 0))]) (.seq (.seq (.ops [Mv 3 0, Op 4 (.int2 .geq .u64 (Tm 3) (.const (.int .u64 4294967296)))]) (.cond (Tm 4) (.seq (.ops [Mv 5 0, Op 6 (.shift .shr (Tm 5) (.const (.int .u64 32))), Mv 0 6]) (.ops [Oi 2 (.mv (Kn 32))])) .skip)) (.seq (.seq (.ops [Mv 7 0, Op 8 (.int2 .geq .u64 (Tm 7) (.const (.int .u64 65536)))]) (.cond (Tm 8) (.seq (.ops [Mv 9 0, Op 10 (.shift .shr (Tm 9) (.const (.int .u64 16))), Mv 0 10]) (.ops [Mv 11 2, Op 12 (.int2 .add .i64 (Tm 11) (Kn 16)), Mv 2 12])) .skip)) (.seq (.seq (.ops [Mv 13 0, Op 14 (.int2 .geq .u64 (Tm 13) (.const (.int .u64 256)))]) (.cond (Tm 14) (.seq (.ops [Mv 15 0, Op 16 (.shift .shr (Tm 15) (.const (.int .u64 8))), Mv 0 16]) (.ops [Mv 17 2, Op 18 (.int2 .add .i64 (Tm 17) (Kn 8)), Mv 2 18])) .skip)) (.seq (.ops [Mv 19 2, Mv 20 0, Op 21 (.conv .u8 (Tm 20)), Op 22 (.sidx (.const (str [0, 1, 2, 2, 3, 3, 3, 3, 4, 4, 4, 4, 4, 4, 4, 4, 5, 5, 5, 5, 5, 5, 5, 5, 5, 5, 5, 5, 5, 5, 5, 5, 6, 6, 6, 6, 6, 6, 6, 6, 6, 6, 6, 6, 6, 6, 6, 6, 6, 6, 6, 6, 6, 6, 6, 6, 6, 6, 6, 6, 6, 6, 6, 6, 7, 7, 7, 7, 7, 7, 7, 7, 7, 7, 7, 7, 7, 7, 7, 7, 7, 7, 7, 7, 7, 7, 7, 7, 7, 7, 7, 7, 7, 7, 7, 7, 7, 7, 7, 7, 7, 7, 7, 7, 7, 7, 7, 7, 7, 7, 7, 7, 7, 7, 7, 7, 7, 7, 7, 7, 7, 7, 7, 7, 7, 7, 7, 7, 8, 8, 8, 8, 8, 8, 8, 8, 8, 8, 8, 8, 8, 8, 8, 8, 8, 8, 8, 8, 8, 8, 8, 8, 8, 8, 8, 8, 8, 8, 8, 8, 8, 8, 8, 8, 8, 8, 8, 8, 8, 8, 8, 8, 8, 8, 8, 8, 8, 8, 8, 8, 8, 8, 8, 8, 8, 8, 8, 8, 8, 8, 8, 8, 8, 8, 8, 8, 8, 8, 8, 8, 8, 8, 8, 8, 8, 8, 8, 8, 8, 8, 8, 8, 8, 8, 8, 8, 8, 8, 8, 8, 8, 8, 8, 8, 8, 8, 8, 8, 8, 8, 8, 8, 8, 8, 8, 8, 8, 8, 8, 8, 8, 8, 8, 8, 8, 8, 8, 8, 8, 8, 8, 8, 8, 8, 8, 8])) (Tm 21)), Op 23 (.conv .i64 (Tm 22)), Op 24 (.int2 .add .i64 (Tm 19) (Tm 23)), Mv 2 24]) .ret))))), [(.tmp 2)]⟩
theorem wqt : trF Try.prog 125 = some wsp := by kernel_rfl
noncomputable def wur (i : Nat) : Code := lp Try.prog 38 i
noncomputable def wvr : RC := (.seq (.ops [Op 5 (.int2 .lss .i64 (Tm 4) (Kn 4))]) (.seq (.cond (Tm 5) .skip (.exit 0)) (.seq (.block 1 (.seq (.ops [Mv 6 4, Mv 3 6]) (.ops [Mv 7 3, Mv 8 3, Oi 9 (.iaddrA 4 1 (Tm 1) (Tm 8)), Oi 10 (.load1 (Tm 9)), Op 11 (.un .xor (Tm 10)), Oi 12 (.iaddrA 4 1 (Tm 1) (Tm 7)), On (.store 1 (Tm 12) (Tm 11))]))) (.ops [Op 13 (.int2 .add .i64 (Tm 4) (Kn 1)), Mv 4 13]))))
theorem wjs : trC Try.prog (wur 0) = wvr := by kernel_rfl
noncomputable def wvcb : RF := ⟨15, (.seq (.ops [Oi 1 (.box 43 (Tm 0)), Oi 2 (.new [(.int .u64 0), (.int .u64 0), (.int .u64 0), (.int .u64 0)] 43)]) (.seq (.seq (.ops [Oi 4 (.mv (Kn 0))]) (.block 0 (.loop (wur 0)))) (.seq (.ops [Oi 14 (.loadN 4 (Tm 1)), On (.store 4 (Tm 2) (Tm 14))]) .ret))), [(.cellN 2 4)]⟩
theorem wfeb : trF Try.prog 38 = some wvcb := by kernel_rfl
end Go.Proofs.Ytjihbfdbgamcdaa
