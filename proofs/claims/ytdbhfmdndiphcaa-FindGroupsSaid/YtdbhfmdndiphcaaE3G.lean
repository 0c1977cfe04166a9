/-
  THE ENGINE FOR UNKNOWN VALUES, part G: the rules by which an unknown run is simplified, step by step.
-/
import Derived.Test.YtdbhfmdndiphcaaE3F
import Derived.Laws.Strings
namespace Go.Den
noncomputable section

variable {P : Program} {cfg : Cfg} {R : Type}

/- NUMBERS -/

theorem nble (a b : Nat) : Nat.ble a b = decide (a ≤ b) := by
  by_cases h : a ≤ b
  · rw [Nat.ble_eq_true_of_le h]; simp [h]
  · simp only [h, decide_false]
    cases hb : Nat.ble a b with
    | false => rfl
    | true => exact absurd (Nat.le_of_ble_eq_true hb) h

theorem nblt (a b : Nat) : Nat.blt a b = decide (a < b) := nble (a + 1) b

theorem nbeq (a b : Nat) : Nat.beq a b = decide (a = b) := by
  by_cases h : a = b
  · subst h; simp
  · simp only [h, decide_false]
    cases hb : Nat.beq a b with
    | false => rfl
    | true => exact absurd (Nat.eq_of_beq_eq_true hb) h

theorem okKey_le {k : Nat} (h : k ≤ 1099511627774) : okKey k = true := Nat.ble_eq_true_of_le h

theorem wrap_i64 {n : Int} (h1 : -9223372036854775808 ≤ n) (h2 : n ≤ 9223372036854775807) : IntKind.wrap .i64 n = n := by
  have hw : IntKind.wrap .i64 n = if n % 18446744073709551616 ≥ 9223372036854775808 then n % 18446744073709551616 - 18446744073709551616 else n % 18446744073709551616 := by
    show (if (true && decide (n % (2 ^ 64 : Int) ≥ (2 ^ 63 : Int))) = true then n % (2 ^ 64 : Int) - (2 ^ 64 : Int) else n % (2 ^ 64 : Int)) = _
    simp only [Bool.true_and, decide_eq_true_eq]
    rfl
  rw [hw]
  split <;> omega

theorem wrap_u8 {n : Int} (h1 : 0 ≤ n) (h2 : n ≤ 255) : IntKind.wrap .u8 n = n := by
  rw [wrap_unsigned rfl]
  show n % 2 ^ 8 = n
  omega

theorem wrap_u64 {n : Int} (h1 : 0 ≤ n) (h2 : n ≤ 18446744073709551615) : IntKind.wrap .u64 n = n := by
  rw [wrap_unsigned rfl]
  show n % 2 ^ 64 = n
  omega

theorem wrap_i32 {n : Int} (h1 : -2147483648 ≤ n) (h2 : n ≤ 2147483647) : IntKind.wrap .i32 n = n := by
  have hw : IntKind.wrap .i32 n = if n % 4294967296 ≥ 2147483648 then n % 4294967296 - 4294967296 else n % 4294967296 := by
    show (if (true && decide (n % (2 ^ 32 : Int) ≥ (2 ^ 31 : Int))) = true then n % (2 ^ 32 : Int) - (2 ^ 32 : Int) else n % (2 ^ 32 : Int)) = _
    simp only [Bool.true_and, decide_eq_true_eq]
    rfl
  rw [hw]
  split <;> omega

theorem asNat_int {k : IntKind} {i : Int} (h : 0 ≤ i) : asNat (.int k i) = some i.toNat := by
  obtain ⟨n, rfl⟩ := Int.eq_ofNat_of_zero_le h
  rfl

/- TEXTS -/

section
variable {f : FuncId} {p : Nat} {rec : Rec} {K : KC R} {e : Env} {H : AH}

theorem codeR_skip : codeR P cfg f p rec .skip K e H = K .normal e H := rfl
theorem codeR_ret : codeR P cfg f p rec .ret K e H = K .ret e H := rfl
theorem codeR_exit {id : Nat} : codeR P cfg f p rec (.exit id) K e H = K (.exit id) e H := rfl
theorem codeR_ops {l : List RO} : codeR P cfg f p rec (.ops l) K e H = opsR P (callS P cfg rec) (K .normal) l e H := rfl
theorem codeR_draw {b : Array Nat} {l : List RO} : codeR P cfg f p rec (.draw b l) K e H = opsDR P (callS P cfg rec) b (K .normal) l 0 [] e H := rfl
theorem codeR_seq {a b : RC} : codeR P cfg f p rec (.seq a b) K e H = codeR P cfg f p rec a (seqK (codeR P cfg f p rec b K) K) e H := rfl
theorem codeR_block {id : Nat} {a : RC} : codeR P cfg f p rec (.block id a) K e H = codeR P cfg f p rec a (blockK id K) e H := rfl
theorem codeR_loop {c : Code} : codeR P cfg f p rec (.loop c) K e H = loopA rec f p c e H K (cfg.live f (firstId c)) := rfl

/-- At a branch. -/
def condC (P : Program) (cfg : Cfg) (f : FuncId) (p : Nat) (rec : Rec) (a b : RC) (K : KC R) (e : Env) (H : AH) (v : Value) : Option R := condV v (codeR P cfg f p rec a K e H) (codeR P cfg f p rec b K e H)
theorem codeR_cond {c : Operand} {a b : RC} : codeR P cfg f p rec (.cond c a b) K e H = condC P cfg f p rec a b K e H (evl e c) := rfl
theorem condC_true {a b : RC} : condC P cfg f p rec a b K e H (.bool true) = codeR P cfg f p rec a K e H := rfl
theorem condC_false {a b : RC} : condC P cfg f p rec a b K e H (.bool false) = codeR P cfg f p rec b K e H := rfl

theorem condC_pos {a b : RC} {q : Prop} [Decidable q] (h : q) : condC P cfg f p rec a b K e H (.bool (decide q)) = codeR P cfg f p rec a K e H := by rw [decide_eq_true h]; rfl
theorem condC_neg {a b : RC} {q : Prop} [Decidable q] (h : ¬ q) : condC P cfg f p rec a b K e H (.bool (decide q)) = codeR P cfg f p rec b K e H := by rw [decide_eq_false h]; rfl

theorem seqK_normal {K1 : KR R} : seqK K1 K .normal e H = K1 e H := rfl
theorem seqK_ret {K1 : KR R} : seqK K1 K .ret e H = K .ret e H := rfl
theorem seqK_exit {K1 : KR R} {id : Nat} : seqK K1 K (.exit id) e H = K (.exit id) e H := rfl
theorem blockK_normal {id : Nat} : blockK id K .normal e H = K .normal e H := rfl
theorem blockK_ret {id : Nat} : blockK id K .ret e H = K .ret e H := rfl
theorem blockK_same {id : Nat} : blockK id K (.exit id) e H = K .normal e H := by
  show (bif Nat.beq id id then K .normal e H else K (.exit id) e H) = _
  rw [Nat.beq_refl]; rfl
theorem blockK_ne {id j : Nat} (h : j ≠ id) : blockK id K (.exit j) e H = K (.exit j) e H := by
  show (bif Nat.beq j id then K .normal e H else K (.exit j) e H) = _
  rw [nbeq, decide_eq_false h]; rfl

theorem round_exit {f : FuncId} {p : Nat} {c : Code} {id : Nat} : roundK rec f p c none (.exit id) e H = some (.code (.exit id) e, H) := rfl
theorem round_ret {f : FuncId} {p : Nat} {c : Code} : roundK rec f p c none .ret e H = some (.code .ret e, H) := rfl
end

/- OPERATIONS -/

section
variable {cs : Calls0} {K : KR R} {d : Option Tmp} {l : List RO} {e : Env} {H : AH}

def opsI (P : Program) (cs : Calls0) (K : KR R) (d : Option Tmp) (l : List RO) (e : Env) (H : AH) (wr : List Nat) (r : ARes) : Option R := opsK (didRes cs wr H r) d e (opsR P cs K l)

theorem opsR_nil : opsR P cs K [] e H = K e H := rfl
theorem opsR_ins {i : Ins} : opsR P cs K (⟨d, none, .ins i⟩ :: l) e H = opsI P cs K d l e H (effWr e i) (insA P e H H.n i) := rfl
theorem opsR_int2 {op : BinOp} {k : IntKind} {x y : Operand} : opsR P cs K (⟨d, none, .int2 op k x y⟩ :: l) e H = opsI P cs K d l e H [] (int2V op k (evl e x) (evl e y)) := rfl
theorem opsR_shift {op : BinOp} {x y : Operand} : opsR P cs K (⟨d, none, .shift op x y⟩ :: l) e H = opsI P cs K d l e H [] (shiftV op (evl e x) (evl e y)) := rfl
theorem opsR_conv {k : IntKind} {x : Operand} : opsR P cs K (⟨d, none, .conv k x⟩ :: l) e H = opsI P cs K d l e H [] (convV k (evl e x)) := rfl
theorem opsR_un {op : UnOp} {x : Operand} : opsR P cs K (⟨d, none, .un op x⟩ :: l) e H = opsI P cs K d l e H [] (unV op (evl e x)) := rfl
theorem opsR_eqb {neg : Bool} {x y : Operand} : opsR P cs K (⟨d, none, .eqb neg x y⟩ :: l) e H = opsI P cs K d l e H [] (eqbV neg (evl e x) (evl e y)) := rfl
theorem opsR_str2 {op : BinOp} {x y : Operand} : opsR P cs K (⟨d, none, .str2 op x y⟩ :: l) e H = opsI P cs K d l e H [] (str2V op (evl e x) (evl e y)) := rfl
theorem opsR_sidx {x y : Operand} : opsR P cs K (⟨d, none, .sidx x y⟩ :: l) e H = opsI P cs K d l e H [] (sidxV (evl e x) (evl e y)) := rfl
theorem opsR_slen {x : Operand} : opsR P cs K (⟨d, none, .slen x⟩ :: l) e H = opsI P cs K d l e H [] (slenV (evl e x)) := rfl
theorem opsR_ssl {x : Operand} {lo hi : Option Operand} : opsR P cs K (⟨d, none, .ssl x lo hi⟩ :: l) e H = opsI P cs K d l e H [] (sslV (evl e x) (lo.map (evl e)) (hi.map (evl e))) := rfl
theorem opsR_lenS {x : Operand} : opsR P cs K (⟨d, none, .lenS x⟩ :: l) e H = opsI P cs K d l e H [] (lenSV (evl e x)) := rfl
theorem opsR_slS {size : Nat} {x : Operand} {lo hi mx : Option Operand} : opsR P cs K (⟨d, none, .slS size x lo hi mx⟩ :: l) e H = opsI P cs K d l e H [] (slSR e H size (evl e x) lo hi mx) := rfl
theorem opsR_look {kt : Nat} {zero : Value} {ok : Bool} {m k : Operand} : opsR P cs K (⟨d, none, .look kt zero ok m k⟩ :: l) e H = opsI P cs K d l e H [] (lookR P H kt zero ok (evl e m) (evl e k)) := rfl
theorem opsR_lenM {x : Operand} : opsR P cs K (⟨d, none, .lenM x⟩ :: l) e H = opsI P cs K d l e H [] (lenMR H (evl e x)) := rfl
theorem opsR_eqc {neg : Bool} {ks : List AK} {x y : Operand} : opsR P cs K (⟨d, none, .eqc neg ks x y⟩ :: l) e H = opsI P cs K d l e H [] (eqcV neg ks (evl e x) (evl e y)) := rfl
theorem opsR_mm {mx : Bool} {x : Operand} {r : List Operand} : opsR P cs K (⟨d, none, .mm mx x r⟩ :: l) e H = opsI P cs K d l e H [] (mmV mx (evl e x) (evls e r)) := rfl
theorem opsR_b2s {x : Operand} : opsR P cs K (⟨d, none, .b2s x⟩ :: l) e H = opsI P cs K d l e H [] (b2sR H (evl e x)) := rfl

theorem opsI_val {wr : List Nat} {v : Value} : opsI P cs K d l e H wr (val v) = opsR P cs K l (e.put d v) H := rfl
theorem opsI_valO {wr : List Nat} {v : Value} : opsI P cs K d l e H wr (valO (some v)) = opsR P cs K l (e.put d v) H := rfl
theorem opsI_new {wr : List Nat} {v : Value} {b : ABlk} {h : List ABlk} (hl : h.length ≤ 1099511627774) : opsI P cs K d l e (HP h) wr (.simple v (some b)) = opsR P cs K l (e.put d v) (HP (h ++ [b])) := by
  show opsK (bif okKey (HP h).n then Did.did v (some b) false ((HP h).push b) [] else Did.none) d e (opsR P cs K l) = _
  rw [HP_n, okKey_le hl, HP_push]
  rfl
theorem opsI_eff {wr : List Nat} {v : Value} {h h' : List ABlk} (hl : h.length ≤ h'.length) : opsI P cs K d l e (HP h) wr (.eff v (HP h')) = opsR P cs K l (e.put d v) (HP h') := by
  show opsK (bif Nat.ble (HP h).n (HP h').n then Did.did v .none true (HP h') wr else Did.none) d e (opsR P cs K l) = _
  rw [HP_n, HP_n, Nat.ble_eq_true_of_le hl]
  rfl
theorem opsI_call {wr : List Nat} {f : FuncId} {args : List Value} : opsI P cs K d l e H wr (.call f args) = opsK (cs f args H) d e (opsR P cs K l) := rfl
end

/- VALUES -/

theorem evl_tmp {e : Env} {t : Tmp} : evl e (.tmp t) = e.get t := rfl
theorem evl_const {e : Env} {v : Value} : evl e (.const v) = v := rfl
theorem evls_nil {e : Env} : evls e [] = [] := rfl
theorem evls_cons {e : Env} {x : Operand} {l : List Operand} : evls e (x :: l) = evl e x :: evls e l := rfl

theorem int2_add {k : IntKind} {a b : Int} : int2V .add k (.int k a) (.int k b) = val (.int k (k.wrap (a + b))) := by simp [int2V, intR, valO]
theorem int2_sub {k : IntKind} {a b : Int} : int2V .sub k (.int k a) (.int k b) = val (.int k (k.wrap (a - b))) := by simp [int2V, intR, valO]
theorem int2_mul {k : IntKind} {a b : Int} : int2V .mul k (.int k a) (.int k b) = val (.int k (k.wrap (a * b))) := by simp [int2V, intR, valO]
theorem int2_quo {k : IntKind} {a b : Int} (h : b ≠ 0) : int2V .quo k (.int k a) (.int k b) = val (.int k (k.wrap (a.tdiv b))) := by simp [int2V, intR, valO, h]
theorem int2_rem {k : IntKind} {a b : Int} (h : b ≠ 0) : int2V .rem k (.int k a) (.int k b) = val (.int k (a.tmod b)) := by simp [int2V, intR, valO, h]
theorem int2_eql {k : IntKind} {a b : Int} : int2V .eql k (.int k a) (.int k b) = val (.bool (decide (a = b))) := by
  simp only [int2V, intR, valO, and_self, if_true]
  rw [show (a == b) = decide (a = b) from rfl]
theorem int2_neq {k : IntKind} {a b : Int} : int2V .neq k (.int k a) (.int k b) = val (.bool (decide (a ≠ b))) := by
  simp only [int2V, intR, valO, and_self, if_true]
  rw [show (a != b) = !(decide (a = b)) from rfl, ← decide_not]
theorem int2_lss {k : IntKind} {a b : Int} : int2V .lss k (.int k a) (.int k b) = val (.bool (decide (a < b))) := by simp [int2V, intR, valO]
theorem int2_leq {k : IntKind} {a b : Int} : int2V .leq k (.int k a) (.int k b) = val (.bool (decide (a ≤ b))) := by simp [int2V, intR, valO]
theorem int2_gtr {k : IntKind} {a b : Int} : int2V .gtr k (.int k a) (.int k b) = val (.bool (decide (b < a))) := by simp [int2V, intR, valO]
theorem int2_geq {k : IntKind} {a b : Int} : int2V .geq k (.int k a) (.int k b) = val (.bool (decide (b ≤ a))) := by simp [int2V, intR, valO]
theorem int2_and {k : IntKind} {a b : Int} : int2V .and k (.int k a) (.int k b) = val (.int k (k.wrap (BitVec.ofInt k.bits a &&& BitVec.ofInt k.bits b).toNat)) := by simp [int2V, intR, bitsR, valO]
theorem int2_or {k : IntKind} {a b : Int} : int2V .or k (.int k a) (.int k b) = val (.int k (k.wrap (BitVec.ofInt k.bits a ||| BitVec.ofInt k.bits b).toNat)) := by simp [int2V, intR, bitsR, valO]
theorem int2_xor {k : IntKind} {a b : Int} : int2V .xor k (.int k a) (.int k b) = val (.int k (k.wrap (BitVec.ofInt k.bits a ^^^ BitVec.ofInt k.bits b).toNat)) := by simp [int2V, intR, bitsR, valO]
theorem shift_shl {j k : IntKind} {a b : Int} (h : 0 ≤ b) : shiftV .shl (.int j a) (.int k b) = val (.int j (j.wrap (a * 2 ^ (min b.toNat j.bits)))) := by
  simp only [shiftV, shiftR, if_neg (show ¬ b < 0 by omega), valO]
theorem shift_shr {j k : IntKind} {a b : Int} (h : 0 ≤ b) : shiftV .shr (.int j a) (.int k b) = val (.int j (a.fdiv (2 ^ (min b.toNat j.bits)))) := by
  simp only [shiftV, shiftR, if_neg (show ¬ b < 0 by omega), valO]
theorem conv_int {j k : IntKind} {a : Int} : convV k (.int j a) = val (.int k (k.wrap a)) := rfl
theorem un_not {b : Bool} : unV .not (.bool b) = val (.bool (!b)) := rfl
theorem un_neg {k : IntKind} {n : Int} : unV .neg (.int k n) = val (.int k (k.wrap (0 - n))) := rfl
theorem eqb_eq {a b : Bool} : eqbV false (.bool a) (.bool b) = val (.bool (a == b)) := rfl
theorem eqb_ne {a b : Bool} : eqbV true (.bool a) (.bool b) = val (.bool (!(a == b))) := rfl
theorem slen_str {l : List UInt8} : slenV (str l) = val (.int .i64 l.length) := rfl

theorem isJK_int {k : IntKind} {n : Int} : isJK (.int k n) = false := eq_of_heq HEq.rfl
theorem isJK_bool {b : Bool} : isJK (.bool b) = false := eq_of_heq HEq.rfl
theorem isJK_string {s : ByteArray} : isJK (.string s) = false := eq_of_heq HEq.rfl
theorem isJK_agg {cs : Array Value} : isJK (.agg cs) = false := eq_of_heq HEq.rfl
theorem isJK_ptr {a : Option Addr} : isJK (.pointer a) = false := eq_of_heq HEq.rfl
theorem isJK_slice {a : Option Addr} {n c : Nat} : isJK (.slice a n c) = false := eq_of_heq HEq.rfl
theorem isJK_FL {n : Nat} {cs : List Value} : isJK (FL n cs) = false := by unfold isJK; split <;> simp_all
theorem isJK_FO {t n : Nat} {cs : List Value} : isJK (FO t n cs) = false := by unfold isJK; split <;> simp_all

theorem cells_agg {cs : Array Value} : (Value.agg cs).cells = cs := eq_of_heq HEq.rfl
theorem cells_int {k : IntKind} {n : Int} : (Value.int k n).cells = ⟨[.int k n]⟩ := eq_of_heq HEq.rfl
theorem cells_bool {b : Bool} : (Value.bool b).cells = ⟨[.bool b]⟩ := eq_of_heq HEq.rfl
theorem cells_string {s : ByteArray} : (Value.string s).cells = ⟨[.string s]⟩ := eq_of_heq HEq.rfl
theorem cells_slice {a : Option Addr} {n c : Nat} : (Value.slice a n c).cells = ⟨[.slice a n c]⟩ := eq_of_heq HEq.rfl
theorem cells_func {f : Fn} {a c : Array Value} : (Value.func f a c).cells = ⟨[.func f a c]⟩ := eq_of_heq HEq.rfl
theorem cells_ptr {a : Option Addr} : (Value.pointer a).cells = ⟨[.pointer a]⟩ := eq_of_heq HEq.rfl

theorem oneCell_of {v : Value} (h1 : ∀ cs, v ≠ .agg cs) (h2 : ∀ cs, v ≠ .tuple cs) (h3 : isJK v = false) : oneCell v = true := by
  unfold oneCell
  split
  · rename_i cs; exact absurd rfl (h1 cs)
  · rename_i cs; exact absurd rfl (h2 cs)
  · rw [h3]; rfl
theorem oneCell_int {k : IntKind} {n : Int} : oneCell (.int k n) = true := eq_of_heq HEq.rfl
theorem oneCell_bool {b : Bool} : oneCell (.bool b) = true := eq_of_heq HEq.rfl
theorem oneCell_string {s : ByteArray} : oneCell (.string s) = true := eq_of_heq HEq.rfl
theorem oneCell_slice {a : Option Addr} {n c : Nat} : oneCell (.slice a n c) = true := eq_of_heq HEq.rfl
theorem oneCell_ptr {a : Option Addr} : oneCell (.pointer a) = true := eq_of_heq HEq.rfl
theorem oneCell_FL {n : Nat} {cs : List Value} : oneCell (FL n cs) = true := oneCell_of (fun _ h => by cases h) (fun _ h => by cases h) isJK_FL
theorem oneCell_FO {t n : Nat} {cs : List Value} : oneCell (FO t n cs) = true := oneCell_of (fun _ h => by cases h) (fun _ h => by cases h) isJK_FO

theorem noRefs_int {k : IntKind} {n : Int} : noRefs (.int k n) = true := eq_of_heq HEq.rfl
theorem noRefs_bool {b : Bool} : noRefs (.bool b) = true := eq_of_heq HEq.rfl
theorem noRefs_string {s : ByteArray} : noRefs (.string s) = true := eq_of_heq HEq.rfl
theorem noRefs_FL {n : Nat} {cs : List Value} : noRefs (FL n cs) = true := eq_of_heq HEq.rfl
theorem noRefsL_nil : noRefsL [] = true := eq_of_heq HEq.rfl
theorem noRefsL_cons {v : Value} {l : List Value} : noRefsL (v :: l) = (noRefs v && noRefsL l) := eq_of_heq HEq.rfl

/- A BLOCK BY ITS NUMBER -/

def rdX (off n : Nat) : Option ABlk → Option CBlk
  | some (.cells b) => bif rdOk b 0 (off + n) then some b else none
  | _ => none

theorem rdBlk_HP {l : List ABlk} (hl : l.length ≤ 1099511627774) {i off n : Nat} : rdBlk (HP l) ⟨i, off, none⟩ n = rdX off n l[i]? := by
  unfold rdBlk
  rw [HP_get l hl]
  cases l[i]? with
  | none => rfl
  | some b => cases b <;> rfl

theorem rdX_X {cs : List Value} {elem : TypeId} {frz : Nat} {pf : Bool} {off n : Nat} (h : off + n ≤ cs.length) : rdX off n (some (X cs elem frz pf)) = some { cells := cs, elem := elem, esz := 1, lens := [], wver := 0, frz := frz, mark := false, pf := pf } := by
  show (bif Nat.ble 0 0 && (Nat.ble 0 0 && Nat.ble (off + n) cs.length) then _ else _) = _
  rw [Nat.ble_eq_true_of_le h]
  rfl

def load1X (off : Nat) (b : Option ABlk) : ARes := match rdX off 1 b with
  | some b => valO b.cells[off]?
  | none => .none

theorem load1_HP {l : List ABlk} (hl : l.length ≤ 1099511627774) {i off : Nat} : load1A (HP l) (.pointer (some ⟨i, off, none⟩)) = load1X off l[i]? := by
  show (match rdBlk (HP l) ⟨i, off, none⟩ 1 with | some b => valO b.cells[off]? | none => .none) = _
  rw [rdBlk_HP hl]
  unfold load1X
  cases rdX off 1 l[i]? <;> rfl

theorem load1X_X {cs : List Value} {elem : TypeId} {frz : Nat} {pf : Bool} {off : Nat} : load1X off (some (X cs elem frz pf)) = valO cs[off]? := by
  unfold load1X
  by_cases h : off + 1 ≤ cs.length
  · rw [rdX_X h]
  · rw [List.getElem?_eq_none (by omega)]
    have h0 : rdX off 1 (some (X cs elem frz pf)) = none := by
      show (bif Nat.ble 0 0 && (Nat.ble 0 0 && Nat.ble (off + 1) cs.length) then _ else none) = none
      rw [show Nat.ble (off + 1) cs.length = false by rw [nble, decide_eq_false h]]
      rfl
    rw [h0]; rfl

def loadNX (size off : Nat) (b : Option ABlk) : ARes := match rdX off size b with
  | some b => val (.agg (slotsOf b.cells off size).toArray)
  | none => .none

theorem loadN_HP {l : List ABlk} (hl : l.length ≤ 1099511627774) {i off size : Nat} : loadNA (HP l) size (.pointer (some ⟨i, off, none⟩)) = loadNX size off l[i]? := by
  show (match rdBlk (HP l) ⟨i, off, none⟩ size with | some b => val (.agg (slotsOf b.cells off size).toArray) | none => .none) = _
  rw [rdBlk_HP hl]
  unfold loadNX
  cases rdX off size l[i]? <;> rfl

theorem loadNX_X {cs : List Value} {elem : TypeId} {frz : Nat} {pf : Bool} {off size : Nat} (h : off + size ≤ cs.length) : loadNX size off (some (X cs elem frz pf)) = val (.agg ⟨slotsOf cs off size⟩) := by
  unfold loadNX
  rw [rdX_X h]

def storeX (l : List ABlk) (i off size : Nat) (v : Value) : Option ABlk → ARes
  | some (.cells b) => bif (Nat.beq v.cells.size size && !isJK v) && (Nat.blt i l.length && (rdOk b 0 (off + v.cells.toList.length) && (Nat.beq 0 b.top && (Nat.ble b.frz off && v.cells.toList.all oneCell)))) then
      .eff undef (HP (l.set i (.cells { b with cells := overwrite b.cells off v.cells.toList, wver := b.top, pf := b.pf && noRefsL v.cells.toList }))) else .none
  | _ => .none

theorem store_HP {l : List ABlk} (hl : l.length ≤ 1099511627774) {i off size : Nat} {v : Value} : storeA (HP l) size (.pointer (some ⟨i, off, none⟩)) v = storeX l i off size v l[i]? := by
  unfold storeA
  cases hq : (Nat.beq v.cells.size size && !isJK v) with
  | false =>
    simp only [hq, cond_false]
    unfold storeX
    split
    · simp only [hq, Bool.false_and, cond_false]
    · rfl
  | true =>
    simp only [hq, cond_true]
    unfold storeCellsA wrBlk
    rw [rdBlk_HP hl]
    rcases Nat.lt_or_ge i l.length with hi | hi
    · have hk : okKey i = true := okKey_le (by omega)
      have hi' : Nat.blt i l.length = true := by rw [nblt]; exact decide_eq_true hi
      cases hb : l[i]? with
      | none => rfl
      | some b =>
        cases b with
        | cells b =>
          simp only [rdX, storeX, hq, hi', Bool.true_and]
          cases h1 : rdOk b 0 (off + v.cells.toList.length) with
          | false => rfl
          | true =>
            simp only [cond_true, Bool.true_and, aver, Option.getD_none, hk, Bool.and_true]
            cases h2 : Nat.beq 0 b.top with
            | false => rfl
            | true =>
              cases h3 : Nat.ble b.frz off with
              | false => rfl
              | true =>
                simp only [Bool.and_self, cond_true, Bool.true_and]
                cases h4 : v.cells.toList.all oneCell with
                | false => rfl
                | true =>
                  simp only [cond_true]
                  rw [HP_set _ _ _ hi]
                  rfl
        | _ => rfl
    · rw [List.getElem?_eq_none hi]
      rfl

theorem storeX_X {l : List ABlk} {i off size : Nat} {v : Value} {cs : List Value} {elem : TypeId} {frz : Nat} {pf : Bool} (hi : i < l.length) (hs : v.cells.size = size) (hj : isJK v = false) (h : off + size ≤ cs.length) (hf : frz ≤ off) (ho : v.cells.toList.all oneCell = true) :
    storeX l i off size v (some (X cs elem frz pf)) = .eff undef (HP (l.set i (X (overwrite cs off v.cells.toList) elem frz (pf && noRefsL v.cells.toList)))) := by
  have hlen : v.cells.toList.length = size := by rw [← hs]; simp
  unfold storeX
  simp only [hs, hj, ho, hlen, Nat.beq_refl, rdOk, CBlk.top, CBlk.lenAt, List.length_nil]
  rw [nblt, decide_eq_true hi, Nat.ble_eq_true_of_le hf, Nat.ble_eq_true_of_le h]
  rfl

theorem bif_pos {α : Type} {p : Prop} [Decidable p] {a b : α} (h : p) : (bif decide p then a else b) = a := by rw [decide_eq_true h]; rfl
theorem bif_neg {α : Type} {p : Prop} [Decidable p] {a b : α} (h : ¬ p) : (bif decide p then a else b) = b := by rw [decide_eq_false h]; rfl

theorem SE_get0 {b : Env} {j : Nat} : (SE b []).get j = b.get j := rfl

theorem arr_toList {l : List Value} : (Array.mk l).toList = l := eq_of_heq HEq.rfl
theorem arr_size {l : List Value} : (Array.mk l).size = l.length := eq_of_heq HEq.rfl
theorem slots_all {l : List Value} {n : Nat} (h : l.length = n) : slotsOf l 0 n = l := by
  subst h
  simp [slotsOf]

def resC : Option Value → Option (List Value) → Option (List Value)
  | some v, some l => some (v :: l)
  | _, _ => none
theorem resR_nil {H : AH} {e : Env} : resR H e [] = some [] := rfl
theorem resR_cons {H : AH} {e : Env} {x : CRes} {r : List CRes} : resR H e (x :: r) = resC (resA H e x) (resR H e r) := by
  simp only [resR]
  cases resA H e x <;> cases resR H e r <;> rfl
theorem resC_some {v : Value} {l : List Value} : resC (some v) (some l) = some (v :: l) := rfl
theorem resA_tmp {H : AH} {e : Env} {t : Tmp} : resA H e (.tmp t) = some (e.get t) := rfl
theorem resA_cell1 {H : AH} {e : Env} {t : Tmp} : resA H e (.cell1 t) = resV (load1A H (e.get t)) := rfl
theorem resA_cellN {H : AH} {e : Env} {t : Tmp} {n : Nat} : resA H e (.cellN t n) = resV (loadNA H n (e.get t)) := rfl
theorem resV_val {v : Value} : resV (val v) = some v := rfl
theorem resV_valO {v : Value} : resV (valO (some v)) = some v := rfl

/- FROZEN ROWS -/

theorem load1F_FP {H : AH} {off : Nat} {cs : List Value} : load1A H (FP off cs) = valO cs[off]? := rfl
theorem loadNF_FP {H : AH} {off size : Nat} {cs : List Value} (h : off + size ≤ cs.length) : loadNA H size (FP off cs) = val (.agg ⟨slotsOf cs off size⟩) := by
  show (bif Nat.ble (off + size) cs.length then val (.agg (slotsOf cs off size).toArray) else .none) = _
  rw [nble, decide_eq_true h]
  rfl
theorem len_FL {n : Nat} {cs : List Value} : lenSV (FL n cs) = val (.int .i64 n) := rfl
theorem len_FO {t n : Nat} {cs : List Value} : lenSV (FO t n cs) = val (.int .i64 n) := rfl
theorem len_slice {a : Option Addr} {n c : Nat} : lenSV (.slice a n c) = val (.int .i64 n) := rfl
theorem iaddrS_FL {size n : Nat} {cs : List Value} {k : IntKind} {i : Int} (h0 : 0 ≤ i) (h : i.toNat < n) : iaddrSA size (FL n cs) (.int k i) = val (FP (i.toNat * size) cs) := by
  unfold iaddrSA
  rw [asNat_int h0]
  show (bif Nat.blt i.toNat n then forceN (Nat.mul i.toNat size) fun m => val (FP m cs) else .none) = _
  rw [nblt, decide_eq_true h, forceN_eq]
  rfl
theorem iaddrS_FO {size t n : Nat} {cs : List Value} {k : IntKind} {i : Int} (h0 : 0 ≤ i) (h : i.toNat < n) : iaddrSA size (FO t n cs) (.int k i) = val (FP (i.toNat * size) cs) := by
  unfold iaddrSA
  rw [asNat_int h0]
  show (bif Nat.blt i.toNat n then forceN (Nat.mul i.toNat size) fun m => val (FP m cs) else .none) = _
  rw [nblt, decide_eq_true h, forceN_eq]
  rfl

/- PARTS -/

theorem idx1_agg {len size : Nat} {cs : List Value} {k : IntKind} {i : Int} (h0 : 0 ≤ i) (h : i.toNat < len) : idx1A len size (.agg ⟨cs⟩) (.int k i) = valO cs[i.toNat * size]? := by
  unfold idx1A
  rw [asNat_int h0]
  show (bif Nat.blt i.toNat len then fld1A (i.toNat * size) (.agg ⟨cs⟩) else .none) = _
  rw [nblt, decide_eq_true h]
  rfl
theorem fldN_agg {off size : Nat} {cs : List Value} (h : off + size ≤ cs.length) : fldNA off size (.agg ⟨cs⟩) = val (.agg ⟨slotsOf cs off size⟩) := by
  show (bif Nat.ble (off + size) cs.length then val (.agg (slotsOf cs off size).toArray) else .none) = _
  rw [nble, decide_eq_true h]
  rfl
theorem idxN_agg {len size : Nat} {cs : List Value} {k : IntKind} {i : Int} (h0 : 0 ≤ i) (h : i.toNat < len) : idxNA len size (.agg ⟨cs⟩) (.int k i) = fldNA (i.toNat * size) size (.agg ⟨cs⟩) := by
  unfold idxNA
  rw [asNat_int h0]
  show (bif Nat.blt i.toNat len then fldNA (i.toNat * size) size (.agg ⟨cs⟩) else .none) = _
  rw [nblt, decide_eq_true h]
  rfl
theorem fld1_agg {off : Nat} {cs : List Value} : fld1A off (.agg ⟨cs⟩) = valO cs[off]? := rfl
theorem ext_tuple {i : Nat} {vs : List Value} : extA i (.tuple ⟨vs⟩) = valO vs[i]? := by
  show (match vs[i]? with | some v => val v | none => .none) = _
  cases vs[i]? <;> rfl
theorem pick_true {a b : Value} : pickA a b (.bool true) = val a := rfl
theorem pick_false {a b : Value} : pickA a b (.bool false) = val b := rfl
theorem faddr_ptr {off : Nat} {a : Addr} : faddrA off (.pointer (some a)) = val (.pointer (some ⟨a.block, a.off + off, a.spot⟩)) := by
  show (forceN (Nat.add a.off off) fun n => val (.pointer (some ⟨a.block, n, a.spot⟩))) = _
  rw [forceN_eq]; rfl
theorem faddr_FP {off n : Nat} {cs : List Value} : faddrA off (FP n cs) = val (FP (n + off) cs) := by
  show (forceN (Nat.add n off) fun n => val (FP n cs)) = _
  rw [forceN_eq]; rfl
theorem iaddrA_ptr {len size : Nat} {a : Addr} {k : IntKind} {i : Int} (h0 : 0 ≤ i) (h : i.toNat < len) : iaddrAA len size (.pointer (some a)) (.int k i) = val (.pointer (some ⟨a.block, a.off + i.toNat * size, a.spot⟩)) := by
  unfold iaddrAA
  rw [asNat_int h0]
  show (bif Nat.blt i.toNat len then faddrA (Nat.mul i.toNat size) (.pointer (some a)) else .none) = _
  rw [nblt, decide_eq_true h, cond_true, faddr_ptr]
  rfl
theorem iaddrA_FP {len size n : Nat} {cs : List Value} {k : IntKind} {i : Int} (h0 : 0 ≤ i) (h : i.toNat < len) : iaddrAA len size (FP n cs) (.int k i) = val (FP (n + i.toNat * size) cs) := by
  unfold iaddrAA
  rw [asNat_int h0]
  show (bif Nat.blt i.toNat len then faddrA (Nat.mul i.toNat size) (FP n cs) else .none) = _
  rw [nblt, decide_eq_true h, cond_true, faddr_FP]
  rfl

theorem fillR_nil {cs : List Value} : fillR cs [] = some cs := rfl
theorem fillR_cons {cs : List Value} {off size : Nat} {v : Value} {r : List (Nat × Nat × Value)} (h1 : v.cells.size = size) (h2 : off + size ≤ cs.length) (h3 : isJK v = false) : fillR cs ((off, size, v) :: r) = fillR (overwrite cs off v.cells.toList) r := by
  show (bif Nat.beq v.cells.size size && (Nat.ble (off + size) cs.length && !isJK v) then fillR (overwrite cs off v.cells.toList) r else none) = _
  rw [nbeq, decide_eq_true h1, nble, decide_eq_true h2, h3]
  rfl
theorem fillRes_some {elem len fresh : Nat} {cs : List Value} : fillRes elem len fresh (some cs) = .simple (.slice (some ⟨fresh, 0, none⟩) len (len + 1)) (some (X cs elem 0 (noRefsL cs))) := rfl
theorem buildRes_some {cs : List Value} : buildRes (some cs) = val (.agg ⟨cs⟩) := rfl

/- GUARDED OPERATIONS -/

section
variable {cs : Calls0} {K : KR R} {d : Option Tmp} {l : List RO} {e : Env} {H : AH}

def opsGd (P : Program) (cs : Calls0) (K : KR R) (d : Option Tmp) (l : List RO) (e : Env) (H : AH) (wr : List Nat) (want : Bool) (r : ARes) (v : Value) : Option R := opsK (didG (gselV want v) (didRes cs wr H r) H) d e (opsR P cs K l)

def wrR (e : Env) : RI → List Nat
  | .ins i => effWr e i
  | _ => []

theorem opsR_guard {g : Tmp} {want : Bool} {ri : RI} : opsR P cs K (⟨d, some (some g, want), ri⟩ :: l) e H = opsGd P cs K d l e H (wrR e ri) want (riA P e H ri) (e.get g) := by
  cases ri <;> rfl

theorem opsGd_bool {wr : List Nat} {want b : Bool} {r : ARes} : opsGd P cs K d l e H wr want r (.bool b) = opsI P cs K d l e H wr (if b = want then r else val undef) := by
  cases b <;> cases want <;> rfl

theorem ite_val {c : Prop} [Decidable c] {v u : Value} : (if c then val v else val u) = val (if c then v else u) := by split <;> rfl
theorem valO_some {v : Value} : valO (some v) = val v := rfl
theorem pick_sym {a b : Value} {c : Bool} : pickA a b (.bool c) = val (if c = true then a else b) := by cases c <;> rfl
theorem ite_and {c : Prop} [Decidable c] {q : Bool} : (if c then Value.bool q else Value.bool false) = .bool (decide c && q) := by
  split <;> rename_i h <;> simp [h]
theorem ite_or {c : Prop} [Decidable c] {q : Bool} : (if c then Value.bool true else Value.bool q) = .bool (decide c || q) := by
  split <;> rename_i h <;> simp [h]
end

/- TEXTS AS LISTS -/

theorem ba_list (l : List UInt8) : (⟨⟨l⟩⟩ : ByteArray).toList = l := by rw [ByteArray.toList_eq]
theorem list_beq (a b : List UInt8) : (a == b) = decide (a = b) := by
  by_cases h : a = b
  · simp [h]
  · simp [h]
theorem str2_eql {a b : List UInt8} : str2V .eql (str a) (str b) = val (.bool (decide (a = b))) := by
  show valO (some (.bool ((⟨⟨a⟩⟩ : ByteArray).toList == (⟨⟨b⟩⟩ : ByteArray).toList))) = _
  rw [ba_list, ba_list, list_beq]
  rfl
theorem str2_neq {a b : List UInt8} : str2V .neq (str a) (str b) = val (.bool (decide (a ≠ b))) := by
  show valO (some (.bool (!((⟨⟨a⟩⟩ : ByteArray).toList == (⟨⟨b⟩⟩ : ByteArray).toList)))) = _
  rw [ba_list, ba_list, list_beq, decide_not]
  rfl
theorem ba_append (a b : List UInt8) : (⟨⟨a⟩⟩ : ByteArray) ++ (⟨⟨b⟩⟩ : ByteArray) = (⟨⟨a ++ b⟩⟩ : ByteArray) := by
  apply ByteArray.ext
  rw [ByteArray.data_append]
  simp
theorem str2_add {a b : List UInt8} (h : a.length + b.length ≤ 9223372036854775807) : str2V .add (str a) (str b) = val (str (a ++ b)) := by
  have h1 : ¬ (((⟨⟨a⟩⟩ : ByteArray).size + (⟨⟨b⟩⟩ : ByteArray).size : Nat) : Int) > IntKind.i64.max := by
    show ¬ ((a.length + b.length : Nat) : Int) > 9223372036854775807
    omega
  show valO (if _ then none else some (Value.string ((⟨⟨a⟩⟩ : ByteArray) ++ (⟨⟨b⟩⟩ : ByteArray)))) = _
  rw [if_neg h1, ba_append]
  rfl
theorem sidx_str {l : List UInt8} {k : IntKind} {i : Int} (h0 : 0 ≤ i) (h : i.toNat < l.length) : sidxV (str l) (.int k i) = val (.int .u8 ((l.getD i.toNat 0).toNat : Nat)) := by
  show (if 0 ≤ i then (match l[i.toNat]? with | some b => val (.int .u8 b.toNat) | none => .none) else .none) = _
  rw [if_pos h0, List.getD_eq_getElem?_getD, List.getElem?_eq_getElem h]
  rfl
theorem ssl_both {l : List UInt8} {j k : IntKind} {a b : Int} (h0 : 0 ≤ a) (h1 : a ≤ b) (h2 : b ≤ l.length) : sslV (str l) (some (.int j a)) (some (.int k b)) = val (str ((l.take b.toNat).drop a.toNat)) := by
  show (if 0 ≤ a ∧ a ≤ b ∧ b ≤ (l.length : Int) then _ else _) = _
  rw [if_pos ⟨h0, h1, h2⟩]
theorem ssl_hi {l : List UInt8} {k : IntKind} {b : Int} (h1 : 0 ≤ b) (h2 : b ≤ l.length) : sslV (str l) none (some (.int k b)) = val (str (l.take b.toNat)) := by
  show (if (0 : Int) ≤ 0 ∧ 0 ≤ b ∧ b ≤ (l.length : Int) then _ else _) = _
  rw [if_pos ⟨Int.le_refl _, h1, h2⟩]
  rfl
theorem ssl_lo {l : List UInt8} {j : IntKind} {a : Int} (h0 : 0 ≤ a) (h1 : a ≤ l.length) : sslV (str l) (some (.int j a)) none = val (str (l.drop a.toNat)) := by
  show (if 0 ≤ a ∧ a ≤ (l.length : Int) ∧ (l.length : Int) ≤ (l.length : Int) then val (str ((l.take (l.length : Int).toNat).drop a.toNat)) else _) = _
  rw [if_pos ⟨h0, h1, Int.le_refl _⟩, Int.toNat_natCast, List.take_length]

theorem iaddrS_slice {size n c : Nat} {a : Addr} {k : IntKind} {i : Int} (h0 : 0 ≤ i) (h : i.toNat < n) : iaddrSA size (.slice (some a) n c) (.int k i) = val (.pointer (some ⟨a.block, a.off + i.toNat * size, a.spot⟩)) := by
  unfold iaddrSA
  rw [asNat_int h0]
  show (bif Nat.blt i.toNat n then forceN (Nat.add a.off (Nat.mul i.toNat size)) fun n => val (.pointer (some ⟨a.block, n, a.spot⟩)) else .none) = _
  rw [nblt, decide_eq_true h, forceN_eq]
  rfl

theorem eqc_agg {ks : List AK} {xs ys : List Value} (h1 : fitsL ks xs = true) (h2 : fitsL ks ys = true) : eqcV false ks (.agg ⟨xs⟩) (.agg ⟨ys⟩) = val (.bool (eqL xs ys)) := by
  simp only [eqcV, h1, h2, Bool.and_self, if_true, Bool.false_eq_true, if_false]
theorem neq_agg {ks : List AK} {xs ys : List Value} (h1 : fitsL ks xs = true) (h2 : fitsL ks ys = true) : eqcV true ks (.agg ⟨xs⟩) (.agg ⟨ys⟩) = val (.bool (!(eqL xs ys))) := by
  simp only [eqcV, h1, h2, Bool.and_self, if_true]

end
end Go.Den
