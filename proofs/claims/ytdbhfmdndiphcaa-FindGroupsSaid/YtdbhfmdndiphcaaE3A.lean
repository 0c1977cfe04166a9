/-
  THE ENGINE FOR UNKNOWN VALUES, part A: texts made ready once more, their operations over integers and texts by plain laws; such a run is the engine's own.
-/
import Derived.Test.YtdbhfmdndiphcaaE2Y
namespace Go.Den
noncomputable section

/-- A text's bytes. -/
@[reducible] def bytesOf (s : ByteArray) : List UInt8 := s.data.toList
/-- A text of bytes. -/
@[reducible] def str (l : List UInt8) : Value := .string ⟨⟨l⟩⟩

/-- Kinds of single cells that may be compared. -/
inductive AK where
  | int (k : IntKind)
  | str
  | bool

def AK.fits : AK → Value → Bool
  | .int k, .int j _ => sameKind j k
  | .str, .string _ => true
  | .bool, .bool _ => true
  | _, _ => false

def fitsL : List AK → List Value → Bool
  | [], [] => true
  | k :: r, v :: l => k.fits v && fitsL r l
  | _, _ => false

def atomEq : Value → Value → Bool
  | .int _ a, .int _ b => a == b
  | .string a, .string b => a == b
  | .bool a, .bool b => a == b
  | _, _ => false

def eqL : List Value → List Value → Bool
  | a :: r, b :: s => atomEq a b && eqL r s
  | _, _ => true

def fieldsA (rec : TypeId → Option (List AK)) : List Field → Nat → Option (List AK)
  | [], _ => some []
  | f :: r, off => if f.name ≠ "_" ∧ f.offset = off then (match rec f.type with
    | some ks => (match fieldsA rec r (off + ks.length) with
      | some l => some (ks ++ l)
      | none => none)
    | none => none) else none

def repeatA (ks : List AK) : Nat → List AK
  | 0 => []
  | n + 1 => ks ++ repeatA ks n

def sizeOk (P : Program) (t : TypeId) (ks : List AK) : Bool := match tyInfo P t with
  | some i => i.size == ks.length
  | none => false

/-- The cells of a type all of whose parts are numbers, texts, bools. -/
def atomsT (P : Program) : Nat → TypeId → Option (List AK)
  | 0, _ => none
  | d + 1, t => match tyU P t with
    | some (.int k) => some [.int k]
    | some .string => some [.str]
    | some .bool => some [.bool]
    | some (.struct fields) => if P.stoodInHeld t then none else (match fieldsA (atomsT P d) fields.toList 0 with
      | some ks => if sizeOk P t ks then some ks else none
      | none => none)
    | some (.array len elem) => (match atomsT P d elem with
      | some ks => if sizeOk P elem ks && sizeOk P t (repeatA ks len) then some (repeatA ks len) else none
      | none => none)
    | _ => none

inductive RI where
  | ins (i : Ins)
  | int2 (op : BinOp) (k : IntKind) (x y : Operand)
  | shift (op : BinOp) (x y : Operand)
  | conv (k : IntKind) (x : Operand)
  | un (op : UnOp) (x : Operand)
  | eqb (neg : Bool) (x y : Operand)
  | str2 (op : BinOp) (x y : Operand)
  | sidx (x i : Operand)
  | slen (x : Operand)
  | ssl (x : Operand) (lo hi : Option Operand)
  | lenS (x : Operand)
  | slS (size : Nat) (x : Operand) (lo hi mx : Option Operand)
  | look (kt : Nat) (zero : Value) (ok : Bool) (m k : Operand)
  | lenM (x : Operand)
  | b2s (x : Operand)
  | eqc (neg : Bool) (ks : List AK) (x y : Operand)
  | mm (mx : Bool) (x : Operand) (r : List Operand)
  | bad

structure RO where
  dst : Option Tmp
  guard : Option (Option Tmp × Bool)
  ins : RI

/- WHAT THEY ARE -/

def bitsR (op : BinOp) (k : IntKind) (a b : Int) : Option Int := match op with
  | .and => some (k.wrap (BitVec.ofInt k.bits a &&& BitVec.ofInt k.bits b).toNat)
  | .or => some (k.wrap (BitVec.ofInt k.bits a ||| BitVec.ofInt k.bits b).toNat)
  | .xor => some (k.wrap (BitVec.ofInt k.bits a ^^^ BitVec.ofInt k.bits b).toNat)
  | .andNot => some (k.wrap (BitVec.ofInt k.bits a &&& ~~~(BitVec.ofInt k.bits b)).toNat)
  | _ => none

def intR (op : BinOp) (k : IntKind) (a b : Int) : Option Value := match op with
  | .add => some (.int k (k.wrap (a + b)))
  | .sub => some (.int k (k.wrap (a - b)))
  | .mul => some (.int k (k.wrap (a * b)))
  | .quo => if b = 0 then none else some (.int k (k.wrap (a.tdiv b)))
  | .rem => if b = 0 then none else some (.int k (a.tmod b))
  | .eql => some (.bool (a == b))
  | .neq => some (.bool (a != b))
  | .lss => some (.bool (a < b))
  | .leq => some (.bool (a ≤ b))
  | .gtr => some (.bool (b < a))
  | .geq => some (.bool (b ≤ a))
  | .and | .or | .xor | .andNot => (bitsR op k a b).map (.int k)
  | _ => none

def shiftR (op : BinOp) (k : IntKind) (a b : Int) : Option Value := if b < 0 then none else match op with
  | .shl => some (.int k (k.wrap (a * 2 ^ (min b.toNat k.bits))))
  | .shr => some (.int k (a.fdiv (2 ^ (min b.toNat k.bits))))
  | _ => none

def int2V (op : BinOp) (k : IntKind) (x y : Value) : ARes := match x, y with
  | .int j a, .int j' b => if j = k ∧ j' = k then valO (intR op k a b) else .none
  | _, _ => .none

def shiftV (op : BinOp) (x y : Value) : ARes := match x, y with
  | .int j a, .int _ b => valO (shiftR op j a b)
  | _, _ => .none

def convV (k : IntKind) (x : Value) : ARes := match x with
  | .int _ n => val (.int k (k.wrap n))
  | _ => .none

def unV (op : UnOp) (x : Value) : ARes := match op, x with
  | .not, .bool b => val (.bool (!b))
  | .neg, .int k n => val (.int k (k.wrap (0 - n)))
  | .xor, .int k n => valO ((bitsR .xor k (if k.signed then -1 else k.max) n).map (.int k))
  | _, _ => .none

def eqbV (neg : Bool) (x y : Value) : ARes := match x, y with
  | .bool a, .bool b => val (.bool (if neg then !(a == b) else (a == b)))
  | _, _ => .none

def strR (op : BinOp) (a b : ByteArray) : Option Value := match op with
  | .add => if ((a.size + b.size : Nat) : Int) > IntKind.i64.max then none else some (.string (a ++ b))
  | .eql => some (.bool (a.toList == b.toList))
  | .neq => some (.bool (!(a.toList == b.toList)))
  | .lss => some (.bool (Op.bytesLess a.toList b.toList))
  | .leq => some (.bool (Op.bytesLess a.toList b.toList || a.toList == b.toList))
  | .gtr => some (.bool (!(Op.bytesLess a.toList b.toList || a.toList == b.toList)))
  | .geq => some (.bool (!(Op.bytesLess a.toList b.toList)))
  | _ => none

def str2V (op : BinOp) (x y : Value) : ARes := match x, y with
  | .string a, .string b => valO (strR op a b)
  | _, _ => .none

def sidxV (x i : Value) : ARes := match x, i with
  | .string s, .int _ n => if 0 ≤ n then (match (bytesOf s)[n.toNat]? with | some b => val (.int .u8 b.toNat) | none => .none) else .none
  | _, _ => .none

def slenV (x : Value) : ARes := match x with
  | .string s => val (.int .i64 (bytesOf s).length)
  | _ => .none

def sslV (x : Value) (lo hi : Option Value) : ARes := match x with
  | .string s => match optInt 0 lo, optInt (bytesOf s).length hi with
    | some l, some h => if 0 ≤ l ∧ l ≤ h ∧ h ≤ (bytesOf s).length then val (str (((bytesOf s).take h.toNat).drop l.toNat)) else .none
    | _, _ => .none
  | _ => .none
where optInt (d : Int) : Option Value → Option Int
  | none => some d
  | some (.int _ n) => some n
  | _ => none

def lenSF : Option (Nat × List Value) → ARes
  | some p => val (.int .i64 p.1)
  | none => .none

def lenSV (x : Value) : ARes := match x with
  | .slice _ n _ => val (.int .i64 n)
  | x => lenSF (asFL x)

def slFR (e : Env) (size : Nat) (lo hi mx : Option Operand) : Option (Nat × List Value) → ARes
  | some p => match optNat e 0 lo, optNat e p.1 hi with
    | some l, some h => slF2 size p e hi mx l h
    | _, _ => .none
  | none => .none

def slSR (e : Env) (H : AH) (size : Nat) (x : Value) (lo hi mx : Option Operand) : ARes :=
  match x with
  | .slice (some a) len c => match optNat e 0 lo, optNat e len hi with
    | some l, some h => match mx with
      | none => slAny H size a len c l h
      | some y => match asNat (evl e y), hi with
        | some m, some _ => slAnyM H size a len c l h m
        | _, _ => .none
    | _, _ => .none
  | _ => slFR e size lo hi mx (asFL x)

def lookR (P : Program) (H : AH) (kt : Nat) (zero : Value) (ok : Bool) (m k : Value) : ARes :=
  match m with
  | .map (some r) => match H.get r with
    | some (.map es) => bif flat k then lookRes ok zero (findA P es.isEmpty kt k es) else .none
    | _ => .none
  | _ => .none

def lenMR (H : AH) (x : Value) : ARes :=
  match x with
  | .map (some r) => match H.get r with
    | some (.map es) => val (.int .i64 es.length)
    | _ => .none
  | _ => .none

def b2sFR : Option (Nat × List Value) → ARes
  | some p => bif Nat.ble p.1 p.2.length then (bif (p.2.take p.1).all isU8 then val (.string ⟨((p.2.take p.1).map toU8).toArray⟩) else .none) else .none
  | none => .none

def b2sR (H : AH) (x : Value) : ARes :=
  match x with
  | .slice none 0 0 => val (.string ⟨#[]⟩)
  | .slice (some _) 0 _ => val (.string ⟨#[]⟩)
  | .slice (some a) len c => match elemsA H 1 len (.slice (some a) len c) with
    | some l => bif l.all isU8 then val (.string ⟨(l.map toU8).toArray⟩) else .none
    | none => .none
  | _ => b2sFR (asFL x)

def eqcV (neg : Bool) (ks : List AK) (x y : Value) : ARes := match x, y with
  | .agg ⟨xs⟩, .agg ⟨ys⟩ => if fitsL ks xs && fitsL ks ys then val (.bool (if neg then !(eqL xs ys) else eqL xs ys)) else .none
  | _, _ => .none

/-- The least, the greatest. -/
def mmI (mx : Bool) (k : IntKind) : List Value → Int → Option Value
  | [], x => some (.int k x)
  | .int _ y :: r, x => mmI mx k r (if mx then (if y > x then y else x) else (if y < x then y else x))
  | _, _ => none

def mmV (mx : Bool) (x : Value) (r : List Value) : ARes := match x with
  | .int k n => valO (mmI mx k r n)
  | _ => .none

/-- What a ready operation does. -/
def riA (P : Program) (e : Env) (H : AH) : RI → ARes
  | .ins i => insA P e H H.n i
  | .int2 op k x y => int2V op k (evl e x) (evl e y)
  | .shift op x y => shiftV op (evl e x) (evl e y)
  | .conv k x => convV k (evl e x)
  | .un op x => unV op (evl e x)
  | .eqb neg x y => eqbV neg (evl e x) (evl e y)
  | .str2 op x y => str2V op (evl e x) (evl e y)
  | .sidx x i => sidxV (evl e x) (evl e i)
  | .slen x => slenV (evl e x)
  | .ssl x lo hi => sslV (evl e x) (lo.map (evl e)) (hi.map (evl e))
  | .lenS x => lenSV (evl e x)
  | .slS size x lo hi mx => slSR e H size (evl e x) lo hi mx
  | .look kt zero ok m k => lookR P H kt zero ok (evl e m) (evl e k)
  | .lenM x => lenMR H (evl e x)
  | .b2s x => b2sR H (evl e x)
  | .eqc neg ks x y => eqcV neg ks (evl e x) (evl e y)
  | .mm mx x r => mmV mx (evl e x) (evls e r)
  | .bad => .none

/- MAKING READY -/

def isSh : BinOp → Bool
  | .shl | .shr => true
  | _ => false

def trInt (P : Program) (op : BinOp) (t : TypeId) (x y : Operand) : RI :=
  if isSh op then .shift op x y else match tyU P t with
  | some (.int k) => .int2 op k x y
  | _ => .bad

def trEq (op : BinOp) (ks : Option (List AK)) (x y : Operand) : RI := match op, ks with
  | .eql, some ks => .eqc false ks x y
  | .neq, some ks => .eqc true ks x y
  | _, _ => .bad

def trBin (P : Program) (op : BinOp) (t : TypeId) (x y : Operand) : RI := match tyU P t with
  | some .string => .str2 op x y
  | some .bool => (match op with
    | .eql => .eqb false x y
    | .neq => .eqb true x y
    | _ => .bad)
  | some (.struct _) => bif P.eqGuardType P.depth t then .bad else trEq op (atomsT P 12 t) x y
  | some (.array _ _) => bif P.eqGuardType P.depth t then .bad else trEq op (atomsT P 12 t) x y
  | _ => .bad

def trConv (P : Program) (src dst : TypeId) (x : Operand) : RI := match tyU P src, tyU P dst with
  | some (.int _), some (.int k) => .conv k x
  | _, _ => .bad

def trGen (P : Program) (o : Oper) : RI := match o.op with
  | .binOp op t x y _ => trBin P op t x y
  | .unOp op _ x => .un op x
  | .convert src dst x => trConv P src dst x
  | .index t x j => (match tyU P t with | some .string => .sidx x j | _ => .bad)
  | .slice t x lo hi none => (match tyU P t with | some .string => .ssl x lo hi | _ => .bad)
  | .call c => (match c.callee, c.args.toList, c.argTypes[0]? with
    | .builtin .len, [x], some t => (match tyU P t with | some .string => .slen x | _ => .bad)
    | .builtin .max, x :: r, _ => .mm true x r
    | .builtin .min, x :: r, _ => .mm false x r
    | _, _, _ => .bad)
  | _ => .bad

def sameOp (a b : BinOp) : Bool := a == b
def sameOpd : Operand → Operand → Bool
  | .tmp a, .tmp b => Nat.beq a b
  | .const (.int k a), .const (.int j b) => sameKind k j && eqF a b
  | _, _ => false

/-- Is an operation the length of a row, of this operand? -/
def isLenS (P : Program) (o : Oper) (x : Operand) : Bool := match o.op with
  | .call c => (match c.callee, c.args.toList, c.argTypes[0]? with
    | .builtin .len, [y], some t => (match tyU P t with | some (.slice _) => sameOpd x y | _ => false)
    | _, _, _ => false)
  | _ => false

/-- Is it the text of a row of bytes? -/
def isB2S (P : Program) (o : Oper) (x : Operand) : Bool := match o.op with
  | .convert src dst y => (match tyU P src, tyU P dst with
    | some (.slice e), some .string => (match tyU P e with | some (.int .u8) => sameOpd x y | _ => false)
    | _, _ => false)
  | _ => false

def trIns (P : Program) (i : Ins) : RI := match i with
  | .int2 op x y o => (match o.op with
    | .binOp op' t x' y' _ => if sameOp op op' && (sameOpd x x' && sameOpd y y') then trInt P op t x y else .bad
    | _ => .bad)
  | .gen o => trGen P o
  | .len x o => if isLenS P o x then .lenS x else .bad
  | .slS size x lo hi mx _ => .slS size x lo hi mx
  | .look kt zero ok m k _ => .look kt zero ok m k
  | .lenM x _ => .lenM x
  | .b2s x o => if isB2S P o x then .b2s x else .bad
  | .topu _ _ => .bad
  | .frpu _ _ _ => .bad
  | i => .ins i

def trI (P : Program) : Option Ins → RI
  | some i => trIns P i
  | none => .bad

/-- An operation made ready once more. -/
def trO (P : Program) (ops : Array Oper) (o : Oper) : RO := ⟨o.dst, compGuard ops o.guard, trI P (comp P o)⟩

/- TEXTS -/

inductive RC where
  | skip
  | ret
  | exit (id : Nat)
  | bad
  | ops (l : List RO)
  | draw (before : Array Nat) (l : List RO)
  | seq (a b : RC)
  | cond (c : Operand) (a b : RC)
  | block (id : Nat) (a : RC)
  | loop (c : Code)

def trOps (P : Program) (ops : Array Oper) : List Oper → List RO
  | [] => []
  | o :: r => trO P ops o :: trOps P ops r

/-- A text made ready. -/
def trC (P : Program) : Code → RC
  | .skip => .skip
  | .label _ => .skip
  | .ret => .ret
  | .exit id => .exit id
  | .region _ ops draw => if draw then (if staticOk ops then .draw (Region.before ops) (trOps P ops ops.toList) else .bad) else .ops (trOps P ops ops.toList)
  | .seq a b => .seq (trC P a) (trC P b)
  | .cond c a b => if okOpd c then .cond c (trC P a) (trC P b) else .bad
  | .block id c => .block id (trC P c)
  | .loop c => .loop c
  | _ => .bad

/-- A function made ready. -/
structure RF where
  n : Nat
  code : RC
  res : List CRes

def trF (P : Program) (f : FuncId) : Option RF := match P.funcs[f]? with
  | some fn => match fn.body with
    | some c => some ⟨fn.ntmps, trC P c, fn.results.toList.map (compRes P)⟩
    | none => none
  | none => none

/-- A text's loops, the outer ones first. -/
def loopsOf : Code → List Code
  | .seq a b => loopsOf a ++ loopsOf b
  | .cond _ a b => loopsOf a ++ loopsOf b
  | .block _ c => loopsOf c
  | .loop c => c :: loopsOf c
  | _ => []

/-- A function's i-th loop. -/
def lp (P : Program) (f : FuncId) (i : Nat) : Code := match P.funcs[f]? with
  | some fn => match fn.body with
    | some c => (match (loopsOf c)[i]? with
      | some c => c
      | none => .skip)
    | none => .skip
  | none => .skip

/- WHAT THEY DO -/

def stepR (P : Program) (cs : Calls0) (e : Env) (H : AH) : RI → Did
  | .ins i => didRes cs (effWr e i) H (insA P e H H.n i)
  | r => didRes cs [] H (riA P e H r)

def opsR {R : Type} (P : Program) (cs : Calls0) (K : KR R) : List RO → KR R
  | [], e, H => K e H
  | o :: r, e, H => opsK (didG (gsel o.guard e) (stepR P cs e H o.ins) H) o.dst e (opsR P cs K r)

def looksR (e : Env) : RI → List Nat
  | .ins i => bif looks (some i) then rdIds e i else []
  | .slS _ x _ _ _ => idOf (evl e x)
  | .look _ _ _ m _ => idOf (evl e m)
  | .lenM x => idOf (evl e x)
  | .b2s x => idOf (evl e x)
  | _ => []

def tiR (g : Option Bool) (i : Nat) (ri : RI) (e : Env) (H : AH) (nb : Option ABlk) (eff : Bool) (H' : AH) (wr : List Nat) (acc : List Ti) : List Ti := match g with
  | some true => (bif eff then ⟨i, [], some (wr, H.n, H'.n)⟩ else ⟨i, tiRd nb H.n (looksR e ri), none⟩) :: acc
  | _ => acc

def drawEndR {R : Type} (before : Array Nat) (acc : List Ti) (K : KR R) (e : Env) (H : AH) : Option R :=
  bif chainTi before acc.reverse && sepAll before acc then K e H else none

def opsKR {R : Type} (d : Did) (o : RO) (i : Nat) (acc : List Ti) (e : Env) (H : AH) (K : Nat → List Ti → KR R) : Option R :=
  match d with
  | .did v nb eff H' wr => K (i + 1) (tiR (gsel o.guard e) i o.ins e H nb eff H' wr acc) (e.put o.dst v) H'
  | .none => none

def opsDR {R : Type} (P : Program) (cs : Calls0) (before : Array Nat) (K : KR R) : List RO → Nat → List Ti → KR R
  | [], _, acc, e, H => drawEndR before acc K e H
  | o :: r, i, acc, e, H => opsKR (didG (gsel o.guard e) (stepR P cs e H o.ins) H) o i acc e H (opsDR P cs before K r)

def codeR {R : Type} (P : Program) (cfg : Cfg) (f : FuncId) (p : Nat) (rec : Rec) : RC → KC R → KR R
  | .skip, K, e, H => K .normal e H
  | .ret, K, e, H => K .ret e H
  | .exit id, K, e, H => K (.exit id) e H
  | .bad, _, _, _ => none
  | .ops l, K, e, H => opsR P (callS P cfg rec) (K .normal) l e H
  | .draw before l, K, e, H => opsDR P (callS P cfg rec) before (K .normal) l 0 [] e H
  | .seq a b, K, e, H => codeR P cfg f p rec a (seqK (codeR P cfg f p rec b K) K) e H
  | .cond c a b, K, e, H => condV (evl e c) (codeR P cfg f p rec a K e H) (codeR P cfg f p rec b K e H)
  | .block id c, K, e, H => codeR P cfg f p rec c (blockK id K) e H
  | .loop c, K, e, H => loopA rec f p c e H K (cfg.live f (firstId c))

def resR (H : AH) (e : Env) : List CRes → Option (List Value)
  | [] => some []
  | x :: r => match resA H e x, resR H e r with
    | some v, some l => some (v :: l)
    | _, _ => none

end
end Go.Den
