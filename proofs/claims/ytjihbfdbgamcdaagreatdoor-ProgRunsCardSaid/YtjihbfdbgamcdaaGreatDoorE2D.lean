/-
  THE ENGINE, part D: operations made ready, and what they do by abstract values.
-/
import Derived.Test.YtjihbfdbgamcdaaGreatDoorE2C
namespace Go.Den
noncomputable section

/- THE FRAME -/

structure Env where
  n : Nat
  t : T Value
  /-- what package-level variables hold; do rows that are appended to become frozen ones? -/
  g : (Nat → Option (List Value)) × Bool

def Env.get (e : Env) (k : Nat) : Value := match e.t.get k with | some v => v | none => undef
def Env.put (e : Env) (d : Option Tmp) (v : Value) : Env := match d with
  | none => e
  | some k => Env.rec (fun n t g => bif Nat.blt k n then ⟨n, T.put v 40 t k, g⟩ else ⟨n, t, g⟩) e

def globV : Option (List Value) → Value
  | some cs => FP 0 cs
  | none => JK

def evl (e : Env) : Operand → Value
  | .tmp t => e.get t
  | .const v => v
  | .func f => .func (.func f) #[] #[]
  | .global g => globV (e.g.1 g)

def asFL : Value → Option (Nat × List Value)
  | .func (.yield n) ⟨cs⟩ ⟨[]⟩ => some (n, cs)
  | .func (.yield n) ⟨cs⟩ ⟨[.map (some _)]⟩ => some (n, cs)
  | _ => none

def asFO : Value → Option (Nat × Nat × List Value)
  | .func (.yield n) ⟨cs⟩ ⟨[.map (some t)]⟩ => some (t, n, cs)
  | _ => none

def asOP : Value → Option (Nat × Nat × List Value)
  | .func (.yield n) ⟨cs⟩ ⟨[.map (some t), .bool true]⟩ => some (t, n, cs)
  | _ => none

theorem asOP_some {v : Value} {p : Nat × Nat × List Value} (h : asOP v = some p) : v = OP p.1 p.2.1 p.2.2 := by
  unfold asOP at h
  split at h
  · cases h; rfl
  · cases h

def asFP : Value → Option (Nat × List Value)
  | .func (.yield n) ⟨cs⟩ ⟨[.bool true]⟩ => some (n, cs)
  | _ => none

theorem asFL_cases {v : Value} {p : Nat × List Value} (h : asFL v = some p) : v = FL p.1 p.2 ∨ ∃ t, v = FO t p.1 p.2 := by
  unfold asFL at h
  split at h
  · cases h; exact .inl rfl
  · cases h; exact .inr ⟨_, rfl⟩
  · cases h

theorem asFO_some {v : Value} {p : Nat × Nat × List Value} (h : asFO v = some p) : v = FO p.1 p.2.1 p.2.2 := by
  unfold asFO at h
  split at h
  · cases h; rfl
  · cases h

theorem VR.row_inv {ρ : Ren} {v v' : Value} {p : Nat × List Value} (h : VR ρ v v') (hp : asFL v = some p) :
    (∃ (a' : Option Addr) (c' : Nat), p.1 = 0 ∧ p.2 = [] ∧ v' = .slice a' 0 c') ∨
    ∃ (b o c' : Nat) (f : Nat → Value), v' = .slice (some ⟨b, o, none⟩) p.1 c' ∧ p.1 ≤ c' ∧ (∀ i, i < p.2.length → ρ.cell b (o + i) = some (f i)) ∧ ∀ (i : Nat) (v : Value), p.2[i]? = some v → VR ρ.noloc v (f i) := by
  rcases asFL_cases hp with rfl | ⟨t, rfl⟩
  · exact h.list_inv
  · obtain ⟨l, f, h1, h2, h3, h4, h5, h6⟩ := h.own_inv
    exact .inr ⟨l.block, 0, l.cap, f, h4, h2, fun i hi => by rw [Nat.zero_add]; exact h5 i hi, h6⟩

theorem VR.row_len {ρ : Ren} {v v' : Value} {p : Nat × List Value} (h : VR ρ v v') (hp : asFL v = some p) : ∃ a' c', v' = .slice a' p.1 c' := by
  rcases h.row_inv hp with ⟨a', c', h0, _, h1⟩ | ⟨b, o, c', f, h1, _⟩
  · rw [h0]; exact ⟨_, _, h1⟩
  · exact ⟨_, _, h1⟩

theorem asFP_some {v : Value} {p : Nat × List Value} (h : asFP v = some p) : v = FP p.1 p.2 := by
  unfold asFP at h
  split at h
  · cases h; rfl
  · cases h

def evls (e : Env) (l : List Operand) : List Value := List.rec [] (fun x _ ih => evl e x :: ih) l

def okOpd : Operand → Bool
  | .const v => flat v
  | _ => true

/- READY OPERATIONS -/

inductive Ins where
  | mv (x : Operand)
  | pick (c a b : Operand)
  | new (zero : List Value) (elem : Nat)
  | box (elem : Nat) (x : Operand)
  | build (zero : List Value) (parts : List (Nat × Nat × Operand))
  | bslice (elem len : Nat) (zero : List Value) (parts : List (Nat × Nat × Operand))
  | load1 (x : Operand)
  | loadN (size : Nat) (x : Operand)
  | store (size : Nat) (x y : Operand)
  | nilc (x : Operand)
  | int2 (op : BinOp) (x y : Operand) (o : Oper)
  | ref (neg : Bool) (d : TypeDesc) (x y : Operand)
  | faddr (off : Nat) (x : Operand)
  | iaddrA (len size : Nat) (x i : Operand)
  | iaddrS (size : Nat) (x i : Operand)
  | fld1 (off : Nat) (x : Operand)
  | fldN (off size : Nat) (x : Operand)
  | idx1 (len size : Nat) (x i : Operand)
  | idxN (len size : Nat) (x i : Operand)
  | slS (size : Nat) (x : Operand) (lo hi mx : Option Operand) (o : Oper)
  | slA (n size : Nat) (x : Operand) (lo hi : Option Operand)
  | len (x : Operand) (o : Oper)
  | lenM (x : Operand) (o : Oper)
  | capI (x : Operand)
  | ext (x : Operand) (i : Nat)
  | iface (t : Nat) (x : Operand)
  | mkfn (fn : Fn) (first captured : List Operand)
  | app (elem size bytes : Nat) (s x : Operand)
  | copy (size : Nat) (d s : Operand)
  | mkmap
  | look (kt : Nat) (zero : Value) (ok : Bool) (m k : Operand) (o : Oper)
  | upd (kt : Nat) (m k x : Operand)
  | del (kt : Nat) (m k : Operand)
  | mkslice (elem size bytes : Nat) (zero : List Value) (l c : Operand)
  | b2s (x : Operand) (o : Oper)
  | s2b (elem : Nat) (x : Operand)
  | call (f : FuncId) (args : List Operand)
  | dyn (f : Operand) (args : List Operand)
  | usd (x : Operand)
  | topu (x : Operand) (o : Oper)
  | frpu (u : TypeId) (x : Operand) (o : Oper)
  | ustr (u : TypeId) (x n : Operand)
  | mknz (elem : TypeId) (x : Operand)
  | gen (o : Oper)

def tyInfo (P : Program) (t : TypeId) : Option TypeInfo := P.info? t
def tyU (P : Program) (t : TypeId) : Option TypeDesc := P.underlying t
def isAggD : TypeDesc → Bool
  | .struct _ | .array _ _ => true
  | _ => false
def isRefD : TypeDesc → Bool
  | .pointer _ | .slice _ | .map _ _ | .func _ _ _ => true
  | _ => false
def isSeqD : TypeDesc → Bool
  | .slice _ | .string => true
  | _ => false
def isIntD : TypeDesc → Bool
  | .int _ => true
  | _ => false

def zeroFlat (i : TypeInfo) : Option Value := match i.zero with
  | some z => if flat z then some z else none
  | none => none

def hasBody (P : Program) (g : FuncId) : Bool := match P.funcs[g]? with
  | some fn => fn.body.isSome && !(fn.name == "runtime.NumGoroutine")
  | none => false

def partsS (places : List (Nat × Nat)) : List (Nat × Operand) → Option (List (Nat × Nat × Operand))
  | [] => some []
  | (j, x) :: r => match places[j]?, partsS places r with
    | some p, some l => some ((p.1, p.2, x) :: l)
    | _, _ => none

def partsA (size : Nat) : List (Nat × Operand) → List (Nat × Nat × Operand)
  | [] => []
  | (j, x) :: r => (j * size, size, x) :: partsA size r

def compBuild (P : Program) (t : TypeId) (parts : List (Nat × Operand)) : Option Ins :=
  match tyInfo P t, tyU P t with
  | some ti, some (.struct fields) => match zeroFlat ti, fields.toList.mapM (fun f => (P.info? f.type).map fun i => (f.offset, i.size)) with
    | some z, some places => match partsS places parts with
      | some l => some (.build z.cells.toList l)
      | none => none
    | _, _ => none
  | some ti, some (.array _ elem) => match zeroFlat ti, tyInfo P elem with
    | some z, some ei => some (.build z.cells.toList (partsA ei.size parts))
    | _, _ => none
  | _, _ => none

def zeroRow (zero : List Value) (n : Nat) : List Value := match n with
  | 0 => []
  | n + 1 => zero ++ zeroRow zero n

def compSlice (P : Program) (t : TypeId) (len : Nat) (parts : List (Nat × Operand)) : Option Ins :=
  match tyU P t with
  | some (.slice elem) => match tyInfo P elem with
    | some i => match zeroFlat i with
      | some z => if Nat.ble (len * i.size) 4096 && (Nat.beq z.cells.size i.size && Nat.blt 0 i.size) then some (.bslice elem len (zeroRow z.cells.toList len) (partsA i.size parts)) else none
      | none => none
    | none => none
  | _ => none

def compLoad (P : Program) (t : TypeId) (x : Operand) : Option Ins :=
  match tyInfo P t, tyU P t with
  | some i, some d => some (if isAggD d then .loadN i.size x else .load1 x)
  | _, _ => none

def compFaddr (P : Program) (s : TypeId) (x : Operand) (f : Nat) : Option Ins :=
  match tyU P s with
  | some (.struct fields) => match fields[f]? with
    | some fd => match tyInfo P fd.type with
      | some i => if Nat.beq i.size 0 then none else some (.faddr fd.offset x)
      | none => none
    | none => none
  | _ => none

def compField (P : Program) (s : TypeId) (x : Operand) (f : Nat) : Option Ins :=
  match tyU P s with
  | some (.struct fields) => match fields[f]? with
    | some fd => match tyInfo P fd.type, tyU P fd.type with
      | some i, some d => some (if isAggD d then .fldN fd.offset i.size x else .fld1 fd.offset x)
      | _, _ => none
    | none => none
  | _ => none

def compIaddr (P : Program) (t : TypeId) (x i : Operand) : Option Ins :=
  match tyU P t with
  | some (.array len elem) => match tyInfo P elem with
    | some ti => some (.iaddrA len ti.size x i)
    | none => none
  | some (.slice elem) => match tyInfo P elem with
    | some ti => some (.iaddrS ti.size x i)
    | none => none
  | _ => none

def compIndex (P : Program) (t : TypeId) (x i : Operand) (o : Oper) : Option Ins :=
  match tyU P t with
  | some (.array len elem) => match tyInfo P elem, tyU P elem with
    | some ti, some d => some (if isAggD d then .idxN len ti.size x i else .idx1 len ti.size x i)
    | _, _ => none
  | some .string => some (.gen o)
  | _ => none

def compSl (P : Program) (t : TypeId) (x : Operand) (lo hi mx : Option Operand) (o : Oper) : Option Ins :=
  match tyU P t with
  | some .string => some (.gen o)
  | some (.slice elem) => match tyInfo P elem with
    | some ti => some (.slS ti.size x lo hi mx o)
    | none => none
  | some (.array n elem) => match tyInfo P elem, mx with
    | some ti, none => some (.slA n ti.size x lo hi)
    | _, _ => none
  | _ => none

def compRef (P : Program) (neg : Bool) (d : TypeDesc) (x y : Operand) : Option Ins :=
  match d with
  | .pointer elem => match tyInfo P elem with
    | some i => if Nat.blt 0 i.size then some (.ref neg d x y) else none
    | none => none
  | .slice _ => some (.ref neg d x y)
  | .map _ _ => some (.ref neg d x y)
  | .func _ _ _ => some (.ref neg d x y)
  | _ => none

def compBin (P : Program) (op : BinOp) (t : TypeId) (x y : Operand) (o : Oper) : Option Ins :=
  match tyU P t with
  | some d => if isIntD d then some (.int2 op x y o) else if isRefD d then (match op with | .eql => compRef P false d x y | .neq => compRef P true d x y | _ => none) else some (.gen o)
  | none => none

def isSame (P : Program) (f : FuncId) : Bool := match P.funcs[f]? with
  | some fn => fn.body.isNone && (fn.name == "internal/abi.NoEscape" && fn.origin == "")
  | none => false

/-- A row of bytes that nobody has laid: its elements' type. -/
def mkElem (P : Program) (f : FuncId) : Option TypeId := match P.funcs[f]? with
  | some fn => bif fn.body.isNone && (fn.name == "internal/bytealg.MakeNoZero" && fn.origin == "") then (match fn.resultTypes with
    | ⟨[t]⟩ => (match tyU P t with
      | some (.slice e) => (match tyInfo P e with
        | some ti => bif Nat.beq ti.size 1 then some e else none
        | none => none)
      | _ => none)
    | _ => none) else none
  | none => none

def compMk (e : TypeId) : List Operand → Option Ins
  | [x] => some (.mknz e x)
  | _ => none

def compExt (args : List Operand) (o : Oper) : Option TypeId → Option Ins
  | some e => compMk e args
  | none => some (.gen o)

def compSame : List Operand → Option Ins
  | [x] => some (.mv x)
  | _ => none

def asPtr : TypeDesc → Option TypeId
  | .pointer t => some t
  | _ => none

def isUns : TypeDesc → Bool
  | .unsafePointer => true
  | _ => false

def compTo (P : Program) (t : TypeId) (x : Operand) (o : Oper) : Option Ins := match tyInfo P t with
  | some i => if Nat.blt 0 i.size then some (.topu x o) else none
  | none => none

def compFrom (P : Program) (u : TypeId) (x : Operand) (o : Oper) : Option Ins := match tyInfo P u with
  | some _ => some (.frpu u x o)
  | none => none

def compPtr (P : Program) (s d : TypeDesc) (x : Operand) (o : Oper) : Option Ins := match asPtr s with
  | some t => if isUns d then compTo P t x o else some (.gen o)
  | none => if isUns s then (match asPtr d with | some u => compFrom P u x o | none => some (.gen o)) else some (.gen o)

def compConv (P : Program) (src dst : TypeId) (x : Operand) (o : Oper) : Option Ins :=
  match tyU P src, tyU P dst with
  | some (.slice e), some .string => match tyU P e with
    | some (.int .u8) => some (.b2s x o)
    | _ => none
  | some .string, some (.slice e) => match tyU P e, tyInfo P e with
    | some (.int .u8), some i => if Nat.beq i.size 1 then some (.s2b e x) else none
    | _, _ => none
  | some s, some d => compPtr P s d x o
  | _, _ => none

def isSliceT (P : Program) (t : Option TypeId) : Option TypeId := match t with
  | some t => match tyU P t with
    | some (.slice e) => some e
    | _ => none
  | none => none

def zeroOk (ti : TypeInfo) : Bool := match zeroFlat ti with
  | some z => Nat.beq z.cells.size ti.size
  | none => false
def appOk (d : TypeDesc) (ti : TypeInfo) : Bool := isSeqD d && (Nat.blt 0 ti.size && zeroOk ti)

def isUstr : Builtin → Bool
  | .unsafeString => true
  | _ => false

def compUstr (u : Option TypeId) : List Operand → Option Ins
  | [x, n] => match u with
    | some u => some (.ustr u x n)
    | none => none
  | _ => none

def isDel : Builtin → Bool
  | .delete => true
  | _ => false

def compDel (u : Option TypeDesc) : List Operand → Option Ins
  | [m, k] => match u with
    | some (.map kt _) => some (.del kt m k)
    | _ => none
  | _ => none

/-- Builtins besides. -/
def compMore (P : Program) (b : Builtin) (args : List Operand) (argTypes : Array TypeId) : Option Ins :=
  if isUstr b then compUstr (((argTypes[0]?).bind (tyU P)).bind asPtr) args else if isDel b then compDel ((argTypes[0]?).bind (tyU P)) args else none

def compBuiltin (P : Program) (b : Builtin) (args : List Operand) (argTypes : Array TypeId) (o : Oper) : Option Ins :=
  match b, args with
  | .len, [x] => match (argTypes[0]?).bind (tyU P) with
    | some (.slice _) => some (.len x o)
    | some (.map _ _) => some (.lenM x o)
    | some _ => some (.gen o)
    | none => none
  | .cap, [x] => match isSliceT P argTypes[0]? with | some _ => some (.capI x) | none => none
  | .append, [s, x] => match isSliceT P argTypes[0]? with
    | some elem => match tyInfo P elem, (argTypes[1]?).bind (tyU P) with
      | some ti, some d => if appOk d ti then some (.app elem ti.size ti.bytes s x) else none
      | _, _ => none
    | none => none
  | .copy, [d, s] => match isSliceT P argTypes[0]? with
    | some elem => match tyInfo P elem with
      | some ti => if Nat.blt 0 ti.size then some (.copy ti.size d s) else none
      | none => none
    | none => none
  | .unsafeSliceData, [x] => some (.usd x)
  | .complex, _ | .real, _ | .imag, _ | .max, _ | .min, _ => some (.gen o)
  | _, _ => compMore P b args argTypes

def compOp (P : Program) (o : Oper) : Option Ins :=
  match o.op with
  | .move x => some (.mv x)
  | .assign x => some (.mv x)
  | .pick c a b => some (.pick c a b)
  | .alloc elem => match tyInfo P elem with
    | some i => match zeroFlat i with | some z => some (.new z.cells.toList elem) | none => none
    | none => none
  | .box elem x => some (.box elem x)
  | .build t parts => compBuild P t parts.toList
  | .buildSlice t len parts => compSlice P t len parts.toList
  | .load t x => compLoad P t x
  | .store t x y => match tyInfo P t with | some i => some (.store i.size x y) | none => none
  | .nilCheck x => some (.nilc x)
  | .binOp op t x y _ => compBin P op t x y o
  | .unOp _ _ _ => some (.gen o)
  | .convert src dst x => compConv P src dst x o
  | .makeInterface t x => match tyU P t with | some (.interface _) => none | some _ => some (.iface t x) | none => none
  | .makeFunc fn first captured => if fnFlat fn then some (.mkfn fn first.toList captured.toList) else none
  | .makeMap _ none => some .mkmap
  | .makeSlice t l c => match tyU P t with
    | some (.slice elem) => match tyInfo P elem with
      | some ti => match zeroFlat ti with
        | some z => if Nat.beq z.cells.size ti.size && Nat.blt 0 ti.size then some (.mkslice elem ti.size ti.bytes z.cells.toList l c) else none
        | none => none
      | none => none
    | _ => none
  | .slice t x lo hi mx => compSl P t x lo hi mx o
  | .fieldAddr s x f => compFaddr P s x f
  | .field s x f => compField P s x f
  | .indexAddr t x i => compIaddr P t x i
  | .index t x i => compIndex P t x i o
  | .lookup t m k ok => match tyU P t with
    | some (.map kt et) => match tyInfo P et with
      | some i => match zeroFlat i with | some z => some (.look kt z ok m k o) | none => none
      | none => none
    | _ => none
  | .mapUpdate t m k x => match tyU P t with | some (.map kt _) => some (.upd kt m k x) | _ => none
  | .insert t m k x => match tyU P t with | some (.map kt _) => some (.upd kt m k x) | _ => none
  | .extract x i => some (.ext x i)
  | .typeAssert _ _ _ _ => some (.gen o)
  | .call c => match c.callee with
    | .builtin b => compBuiltin P b c.args.toList c.argTypes o
    | .value (.func f) => if hasBody P f then some (.call f c.args.toList) else if isSame P f then compSame c.args.toList else compExt c.args.toList o (mkElem P f)
    | .value f => some (.dyn f c.args.toList)
    | .invoke _ _ => none
  | _ => none

/-- An operation made ready. -/
def comp (P : Program) (o : Oper) : Option Ins := if opKind o.op && o.op.operands.toList.all okOpd then compOp P o else none

/- WHAT THEY DO -/

inductive ARes where
  | none
  | simple (v : Value) (nb : Option ABlk)
  | eff (v : Value) (H : AH)
  | call (f : FuncId) (args : List Value)

def val (v : Value) : ARes := .simple v .none

/-- A version of a block that may be read so far. -/
def rdOk (b : CBlk) (ver n : Nat) : Bool := Nat.ble b.wver ver && (Nat.ble ver b.top && Nat.ble n (b.lenAt ver))

def rdBlk (H : AH) (a : Addr) (n : Nat) : Option CBlk :=
  match H.get a.block with
  | some (.cells b) => bif rdOk b (aver a) (a.off + n) then some b else none
  | _ => none

def wrBlk (H : AH) (a : Addr) (n : Nat) : Option CBlk :=
  match rdBlk H a n with
  | some b => bif Nat.beq (aver a) b.top && (Nat.ble b.frz a.off && okKey a.block) then some b else none
  | none => none

def slotsOf (l : List Value) (off n : Nat) : List Value := (l.drop off).take n

def overwrite : List Value → Nat → List Value → List Value
  | l, _, [] => l
  | l, i, v :: r => overwrite (l.set i v) (i + 1) r

/-- One cell: no aggregate, no tuple; no junk. -/
def oneCell : Value → Bool
  | .agg _ | .tuple _ => false
  | v => !isJK v

def storeCellsA (H : AH) (a : Addr) (vs : List Value) : Option AH :=
  match wrBlk H a vs.length with
  | some b => bif vs.all oneCell then some (H.set a.block (.cells { b with cells := overwrite b.cells a.off vs, wver := b.top, pf := b.pf && noRefsL vs })) else none
  | none => none

def exact (cs : List Value) (elem : TypeId) : ABlk := .cells { cells := cs, elem := elem, esz := 1, lens := [], wver := 0, frz := 0, pf := noRefsL cs }

def asNat : Value → Option Nat
  | .int _ (.ofNat n) => some n
  | _ => none

def optNat (e : Env) (d : Nat) : Option Operand → Option Nat
  | none => some d
  | some x => asNat (evl e x)

def fillR : List Value → List (Nat × Nat × Value) → Option (List Value)
  | cs, [] => some cs
  | cs, (off, size, v) :: r => bif Nat.beq v.cells.size size && (Nat.ble (off + size) cs.length && !isJK v) then fillR (overwrite cs off v.cells.toList) r else none

def evParts (e : Env) : List (Nat × Nat × Operand) → List (Nat × Nat × Value)
  | [] => []
  | (a, b, x) :: r => (a, b, evl e x) :: evParts e r

/-- Whatever touches no memory, at values without an address. -/
def genA (P : Program) (e : Env) (o : Oper) : ARes :=
  bif o.op.operands.toList.all fun x => flat (evl e x) then
    match pureRun P (execOp (evl e) o) with
    | some (.value v) => bif flat v then val v else .none
    | _ => .none
  else .none

def bigMod (k : IntKind) : Nat := match k with
  | .i8 | .u8 => 256
  | .i16 | .u16 => 65536
  | .i32 | .u32 => 4294967296
  | .i64 | .u64 => 18446744073709551616

/-- A number brought into its kind. -/
def wrapF (k : IntKind) (n : Int) : Int :=
  match n with
  | .ofNat m => match k with
    | .u8 | .u16 | .u32 | .u64 => .ofNat (Nat.mod m (bigMod k))
    | _ => bif Nat.blt (Nat.mod m (bigMod k)) (Nat.div (bigMod k) 2) then .ofNat (Nat.mod m (bigMod k)) else k.wrap n
  | _ => k.wrap n

def mkI (k : IntKind) (n : Int) : Option Value := forceI n fun n => some (.int k n)

def bitsF (op : BinOp) (k : IntKind) (a b : Int) : Option Value :=
  match a, b with
  | .ofNat a, .ofNat b => bif Nat.blt a (bigMod k) && Nat.blt b (bigMod k) then
      (match op with
      | .and => mkI k (wrapF k (.ofNat (Nat.land a b)))
      | .or => mkI k (wrapF k (.ofNat (Nat.lor a b)))
      | .xor => mkI k (wrapF k (.ofNat (Nat.xor a b)))
      | _ => none) else none
  | _, _ => none

def leF : Int → Int → Bool
  | .ofNat a, .ofNat b => Nat.ble a b
  | .negSucc _, .ofNat _ => true
  | .ofNat _, .negSucc _ => false
  | .negSucc a, .negSucc b => Nat.ble b a

def eqF : Int → Int → Bool
  | .ofNat a, .ofNat b => Nat.beq a b
  | .negSucc a, .negSucc b => Nat.beq a b
  | _, _ => false

/-- Two integers of one kind. -/
def intF (op : BinOp) (k : IntKind) (a b : Int) : Option Value :=
  match op with
  | .add => mkI k (wrapF k (Int.add a b))
  | .sub => mkI k (wrapF k (Int.sub a b))
  | .mul => mkI k (wrapF k (Int.mul a b))
  | .eql => some (.bool (eqF a b))
  | .neq => some (.bool (!eqF a b))
  | .lss => some (.bool (!leF b a))
  | .leq => some (.bool (leF a b))
  | .gtr => some (.bool (!leF a b))
  | .geq => some (.bool (leF b a))
  | .and => bitsF .and k a b
  | .or => bitsF .or k a b
  | .xor => bitsF .xor k a b
  | .quo => match a, b with
    | .ofNat a, .ofNat (b + 1) => mkI k (wrapF k (.ofNat (Nat.div a (Nat.succ b))))
    | _, _ => none
  | .rem => match a, b with
    | .ofNat a, .ofNat (b + 1) => mkI k (.ofNat (Nat.mod a (Nat.succ b)))
    | _, _ => none
  | _ => none

def shF (op : BinOp) (k : IntKind) (a b : Int) : Option Value :=
  match a, b with
  | .ofNat a, .ofNat b => bif Nat.blt b k.bits then (match op with
      | .shl => mkI k (wrapF k (.ofNat (Nat.mul a (Nat.pow 2 b))))
      | .shr => mkI k (.ofNat (Nat.div a (Nat.pow 2 b)))
      | _ => none) else none
  | _, _ => none

def isShift : BinOp → Bool
  | .shl | .shr => true
  | _ => false

def sameKind (j k : IntKind) : Bool := Nat.beq j.bits k.bits && (j.signed == k.signed)

def intsF (op : BinOp) (j k : IntKind) (a b : Int) : Option Value :=
  bif isShift op then shF op j a b else bif sameKind j k then intF op j a b else none

def orGen (P : Program) (e : Env) (o : Oper) : Option Value → ARes
  | some v => val v
  | none => genA P e o

def int2A (P : Program) (e : Env) (op : BinOp) (x y : Value) (o : Oper) : ARes :=
  match x, y with
  | .int j a, .int k b => orGen P e o (intsF op j k a b)
  | _, _ => .none

def nilPtr (v : Value) : Option Bool := match v with
  | .pointer none => some true
  | .pointer (some _) => some false
  | _ => match asFP v with
    | some _ => some false
    | none => none

def nilSl (v : Value) : Option Bool := match v with
  | .slice none _ _ => some true
  | .slice (some _) _ _ => some false
  | _ => match asFL v with
    | some (0, _) => none
    | some (_ + 1, _) => some false
    | none => none

def nilMap (v : Value) : Option Bool := match v with
  | .map none => some true
  | .map (some _) => some false
  | _ => none

def nilFn (v : Value) : Option Bool := match v with
  | .nilFunc => some true
  | .func fn _ _ => bif fnFlat fn then some false else none
  | _ => none

/-- Is a reference nil? (none: it isn't one of this kind, or it isn't known.) -/
def nilOf (d : TypeDesc) (v : Value) : Option Bool := match d with
  | .pointer _ => nilPtr v
  | .slice _ => nilSl v
  | .map _ _ => nilMap v
  | .func _ _ _ => nilFn v
  | _ => none

def samePtr : Value → Value → Bool
  | .pointer (some a), .pointer (some b) => Nat.beq a.block b.block && (Nat.beq a.off b.off && Nat.beq (aver a) (aver b))
  | _, _ => false

def refA (neg : Bool) (d : TypeDesc) (x y : Value) : ARes :=
  match nilOf d x, nilOf d y with
  | some true, some true => val (.bool (!neg))
  | some true, some false => val (.bool neg)
  | some false, some true => val (.bool neg)
  | some false, some false => bif samePtr x y then val (.bool (!neg)) else .none
  | _, _ => .none

def valO : Option Value → ARes
  | some v => val v
  | none => .none

def load1F : Option (Nat × List Value) → ARes
  | some p => valO p.2[p.1]?
  | none => .none

def load1A (H : AH) (x : Value) : ARes := match x with
  | .pointer (some a) => match rdBlk H a 1 with
    | some b => valO b.cells[a.off]?
    | none => .none
  | _ => load1F (asFP x)

def loadNF (size : Nat) : Option (Nat × List Value) → ARes
  | some p => bif Nat.ble (p.1 + size) p.2.length then val (.agg (slotsOf p.2 p.1 size).toArray) else .none
  | none => .none

def loadNA (H : AH) (size : Nat) (x : Value) : ARes := match x with
  | .pointer (some a) => match rdBlk H a size with
    | some b => val (.agg (slotsOf b.cells a.off size).toArray)
    | none => .none
  | _ => loadNF size (asFP x)

def effU : Option AH → ARes
  | some H => .eff undef H
  | none => .none

def storeA (H : AH) (size : Nat) (x v : Value) : ARes :=
  match x with
  | .pointer (some a) => bif Nat.beq v.cells.size size && !isJK v then effU (storeCellsA H a v.cells.toList) else .none
  | _ => .none

def nilcF (x : Value) : Option (Nat × List Value) → ARes
  | some _ => val x
  | none => .none

def nilcA (x : Value) : ARes := match x with
  | .pointer (some a) => val (.pointer (some a))
  | _ => nilcF x (asFP x)

def faddrF (off : Nat) : Option (Nat × List Value) → ARes
  | some p => forceN (Nat.add p.1 off) fun n => val (FP n p.2)
  | none => .none

def faddrA (off : Nat) (x : Value) : ARes := match x with
  | .pointer (some a) => forceN (Nat.add a.off off) fun n => val (.pointer (some ⟨a.block, n, a.spot⟩))
  | _ => faddrF off (asFP x)

def iaddrAA (len size : Nat) (x i : Value) : ARes :=
  match asNat i with
  | some i => bif Nat.blt i len then faddrA (Nat.mul i size) x else .none
  | none => .none

def iaddrSF (size : Nat) (i : Nat) : Option (Nat × List Value) → ARes
  | some p => bif Nat.blt i p.1 then forceN (Nat.mul i size) fun n => val (FP n p.2) else .none
  | none => .none

def iaddrSS (size : Nat) (i : Nat) (x : Value) : ARes := match x with
  | .slice (some a) len _ => bif Nat.blt i len then forceN (Nat.add a.off (Nat.mul i size)) fun n => val (.pointer (some ⟨a.block, n, a.spot⟩)) else .none
  | _ => iaddrSF size i (asFL x)

def iaddrSA (size : Nat) (x i : Value) : ARes :=
  match asNat i with
  | some i => iaddrSS size i x
  | none => .none

def fld1A (off : Nat) : Value → ARes
  | .agg cs => valO cs.toList[off]?
  | _ => .none

def fldNA (off size : Nat) : Value → ARes
  | .agg cs => bif Nat.ble (off + size) cs.toList.length then val (.agg (slotsOf cs.toList off size).toArray) else .none
  | _ => .none

def idx1A (len size : Nat) (x i : Value) : ARes :=
  match asNat i with
  | some i => bif Nat.blt i len then fld1A (i * size) x else .none
  | none => .none

def idxNA (len size : Nat) (x i : Value) : ARes :=
  match asNat i with
  | some i => bif Nat.blt i len then fldNA (i * size) size x else .none
  | none => .none

/-- Is a block one whose room is not known, of elements of this size? -/
def openOk (size : Nat) (a : Addr) (H : AH) (n : Nat) : Bool := match rdBlk H a n with
  | some b => Nat.beq b.esz size && (!b.lens.isEmpty && (Nat.beq (a.off % size) 0 && Nat.blt 0 size))
  | none => false

def slOpen (H : AH) (size : Nat) (a : Addr) (len l h : Nat) : ARes :=
  bif Nat.ble l h && (Nat.ble h len && openOk size a H (len * size)) then
    (bif Nat.beq l h then val (.slice (some a) 0 0) else val (.slice (some ⟨a.block, a.off + l * size, a.spot⟩) (h - l) 0)) else .none

def slExact (size : Nat) (a : Addr) (c l h : Nat) : ARes :=
  bif Nat.ble l h && Nat.ble h c then
    val (.slice (some ⟨a.block, (bif Nat.beq l c then a.off else a.off + l * size), a.spot⟩) (h - l) (c - l + 1)) else .none

def maxOk (H : AH) (size : Nat) (a : Addr) (len : Nat) : Nat → Bool
  | 0 => Nat.blt 0 len && openOk size a H (len * size)
  | c + 1 => Nat.ble len c && Nat.blt 0 c

def slMax (H : AH) (size : Nat) (a : Addr) (len c l h m : Nat) : ARes :=
  bif Nat.ble l h && (Nat.ble h m && (Nat.ble m len && maxOk H size a len c)) then
    val (.slice (some ⟨a.block, (bif Nat.beq l m then a.off else a.off + l * size), a.spot⟩) (h - l) (m - l + 1)) else .none

/-- A row of no room, cut. -/
def slZero (l h : Nat) : ARes := bif Nat.beq l 0 && Nat.beq h 0 then val (.slice (some ⟨0, 0, none⟩) 0 1) else .none

def slAny (H : AH) (size : Nat) (a : Addr) (len c l h : Nat) : ARes := match c with
  | 0 => slOpen H size a len l h
  | 1 => slZero l h
  | c + 2 => slExact size a (c + 1) l h

def slAnyM (H : AH) (size : Nat) (a : Addr) (len c l h m : Nat) : ARes := match c with
  | 1 => bif Nat.beq m 0 && Nat.beq len 0 then slZero l h else .none
  | c => slMax H size a len c l h m

/-- A frozen row, cut. -/
def slFz (size : Nat) (p : Nat × List Value) (l h : Nat) : ARes :=
  bif Nat.ble l h && (Nat.ble h p.1 && Nat.beq (p.1 * size) p.2.length) then
    (bif Nat.beq l h then val (FL 0 []) else val (FL (h - l) (slotsOf p.2 (l * size) ((h - l) * size)))) else .none

/-- A frozen row, cut to nothing with no room. -/
def slFm (p : Nat × List Value) (l h : Nat) (m : Option Nat) : ARes := match m with
  | some m => bif Nat.beq l h && (Nat.beq h m && Nat.ble m p.1) then (bif Nat.blt 0 p.1 then val (.slice (some ⟨0, 0, none⟩) 0 1) else .none) else .none
  | none => .none

def slF2 (size : Nat) (p : Nat × List Value) (e : Env) (hi mx : Option Operand) (l h : Nat) : ARes := match mx with
  | none => slFz size p l h
  | some y => match hi with
    | some _ => slFm p l h (asNat (evl e y))
    | none => .none

def slF (P : Program) (e : Env) (size : Nat) (lo hi mx : Option Operand) (o : Oper) : Option (Nat × List Value) → ARes
  | some p => match optNat e 0 lo, optNat e p.1 hi with
    | some l, some h => slF2 size p e hi mx l h
    | _, _ => .none
  | none => genA P e o

def slSA (P : Program) (e : Env) (H : AH) (size : Nat) (x : Value) (lo hi mx : Option Operand) (o : Oper) : ARes :=
  match x with
  | .slice (some a) len c => match optNat e 0 lo, optNat e len hi with
    | some l, some h => match mx with
      | none => slAny H size a len c l h
      | some y => match asNat (evl e y), hi with
        | some m, some _ => slAnyM H size a len c l h m
        | _, _ => .none
    | _, _ => .none
  | _ => slF P e size lo hi mx o (asFL x)

def slAA (e : Env) (n size : Nat) (x : Value) (lo hi : Option Operand) : ARes :=
  match x with
  | .pointer (some a) => match optNat e 0 lo, optNat e n hi with
    | some l, some h => slExact size a n l h
    | _, _ => .none
  | _ => .none

def lenF (P : Program) (e : Env) (o : Oper) : Option (Nat × List Value) → ARes
  | some p => val (.int .i64 p.1)
  | none => genA P e o

def lenIA (P : Program) (e : Env) (x : Value) (o : Oper) : ARes :=
  match x with
  | .slice (some _) n _ => val (.int .i64 n)
  | _ => lenF P e o (asFL x)

def lenMA (P : Program) (e : Env) (H : AH) (x : Value) (o : Oper) : ARes :=
  match x with
  | .map (some r) => match H.get r with
    | some (.map es) => val (.int .i64 es.length)
    | _ => .none
  | _ => genA P e o

def capIA : Value → ARes
  | .slice (some _) _ (c + 1) => val (.int .i64 c)
  | .slice none 0 0 => val (.int .i64 0)
  | _ => .none

def extA (i : Nat) : Value → ARes
  | .tuple vs => match vs.toList[i]? with
    | some v => val v
    | none => .none
  | _ => .none

def pickA (a b : Value) : Value → ARes
  | .bool true => val a
  | .bool false => val b
  | _ => .none

def u8s (l : List UInt8) : List Value := l.map fun b => .int .u8 b.toNat

/-- Elements of a slice or a string, as cells: the first n. -/
def elemsF (size n : Nat) : Option (Nat × List Value) → Option (List Value)
  | some p => bif Nat.ble n p.1 && (Nat.blt 0 n && Nat.ble (n * size) p.2.length) then some (p.2.take (n * size)) else none
  | none => none

def elemsA (H : AH) (size n : Nat) (x : Value) : Option (List Value) := match x with
  | .slice (some a) len _ => bif Nat.ble n len && Nat.blt 0 n then (match rdBlk H a (n * size) with
    | some b => some (slotsOf b.cells a.off (n * size))
    | none => none) else none
  | .string s => bif Nat.beq size 1 && Nat.ble n s.data.toList.length then some (u8s (s.data.toList.take n)) else none
  | _ => elemsF size n (asFL x)

def lenAF : Option (Nat × List Value) → Option Nat
  | some p => some p.1
  | none => none

def lenA (x : Value) : Option Nat := match x with
  | .slice _ n _ => some n
  | .string s => some s.data.toList.length
  | _ => lenAF (asFL x)

def roomy (need bytes : Nat) : Bool := Nat.ble need 16777216 && Nat.ble bytes 1048576

def freshRow (H : AH) (elem size : Nat) (cs : List Value) (n : Nat) : ARes :=
  bif okKey H.n then .eff (.slice (some ⟨H.n, 0, some 0⟩) n 0) (H.push (.cells { cells := cs, elem := elem, esz := size, lens := [cs.length], wver := 0, frz := 0, pf := noRefsL cs })) else .none

/-- A row of bytes that nobody has laid. -/
def junks (n : Nat) : List Value := Nat.rec [] (fun _ ih => JK :: ih) n

def mknzA (H : AH) (elem : TypeId) (x : Value) : ARes := match x with
  | .int .i64 (.ofNat (n + 1)) => bif Nat.ble (n + 1) 1099511627776 then freshRow H elem 1 (junks (n + 1)) (n + 1) else .none
  | _ => .none

def appNoneF (H : AH) (s : Value) : Option (Nat × List Value) → ARes
  | some _ => .eff s H
  | none => .none

mutual
/-- Rows without elements are frozen ones. -/
def nfV : Value → Value
  | .slice a 0 c => bif Nat.ble c 1 then FL 0 [] else .slice a 0 c
  | .iface t v => .iface t (nfV v)
  | .agg ⟨cs⟩ => .agg ⟨nfL cs⟩
  | .tuple ⟨cs⟩ => .tuple ⟨nfL cs⟩
  | v => v
def nfL : List Value → List Value
  | [] => []
  | v :: r => nfV v :: nfL r
end

def tokOk (H : AH) (cs : List Value) : Bool := noRefsL cs && (cs.all oneCell && okKey H.n)

/-- A frozen row with room of its own. -/
def freshTok (H : AH) (elem size : Nat) (cs : List Value) (n : Nat) : ARes :=
  bif tokOk H cs then .eff (FO H.n n cs) (H.push (.tok n elem size)) else .none

def freshAny (own : Bool) (H : AH) (elem size : Nat) (cs : List Value) (n : Nat) : ARes :=
  bif own then freshTok H elem size (nfL cs) n else freshRow H elem size cs n

def growOk (m el es : Nat) (elem size t len : Nat) (cs new : List Value) : Bool :=
  Nat.beq m len && (Nat.beq el elem && (Nat.beq es size && (Nat.beq cs.length (len * size) && (noRefsL new && (new.all oneCell && okKey t)))))

def appTok2 (H : AH) (elem size t len : Nat) (cs new : List Value) (n : Nat) : ARes :=
  match H.get t with
  | some (.tok m el es) => bif growOk m el es elem size t len cs new then .eff (FO t (len + n) (cs ++ new)) (H.set t (.tok (len + n) el es)) else .none
  | _ => .none

def appTok (H : AH) (elem size bytes : Nat) (n : Nat) (new : List Value) : Option (Nat × Nat × List Value) → ARes
  | some p => bif roomy (p.2.1 + n) bytes then appTok2 H elem size p.1 p.2.1 p.2.2 (nfL new) n else .none
  | none => .none

/-- Nothing is appended. -/
def appNone (H : AH) (size : Nat) (s : Value) : ARes :=
  match s with
  | .slice none 0 0 => .eff s H
  | .slice (some a) (len + 1) 0 => bif openOk size a H ((len + 1) * size) then .eff s H else .none
  | .slice (some _) len (c + 1) => bif Nat.ble len c then .eff s H else .none
  | _ => appNoneF H s (asFL s)

def tailOk (b : CBlk) (elem size : Nat) (a : Addr) (len : Nat) : Bool :=
  Nat.beq b.elem elem && (Nat.beq (aver a) b.top && (Nat.beq a.off 0 && Nat.beq (len * size) b.cells.length && (Nat.ble b.frz b.cells.length && okKey a.block)))

/-- Onto a row of unknown room. -/
def appOpen (H : AH) (elem size : Nat) (a : Addr) (len n : Nat) (new : List Value) : ARes :=
  bif openOk size a H (len * size) && Nat.blt 0 len then
    match rdBlk H a (len * size) with
    | some b => bif tailOk b elem size a len && new.all oneCell then
        .eff (.slice (some ⟨a.block, a.off, some (b.top + 1)⟩) (len + n) 0) (H.set a.block (.cells { b with cells := b.cells ++ new, lens := (b.cells ++ new).length :: b.lens, pf := b.pf && noRefsL new }))
      else .none
    | none => .none
  else .none

def effV (v : Value) : Option AH → ARes
  | some H => .eff v H
  | none => .none

def appExact (own : Bool) (H : AH) (elem size : Nat) (s : Value) (a : Addr) (len c n : Nat) (new : List Value) : ARes :=
  bif Nat.ble (len + n) c then effV (.slice (some a) (len + n) (c + 1)) (storeCellsA H ⟨a.block, a.off + len * size, a.spot⟩ new)
  else match len with
    | 0 => freshAny own H elem size new n
    | len + 1 => match elemsA H size (len + 1) s with
      | some old => freshAny own H elem size (old ++ new) (len + 1 + n)
      | none => .none

def appOnto (own : Bool) (H : AH) (elem size bytes : Nat) (s : Value) (n : Nat) (new : List Value) : ARes :=
  match s with
  | .slice none 0 0 => bif roomy n bytes then freshAny own H elem size new n else .none
  | .slice (some a) len 0 => bif roomy (len + n) bytes then appOpen H elem size a len n new else .none
  | .slice (some a) len (c + 1) => bif roomy (len + n) bytes && Nat.ble len c then appExact own H elem size s a len c n new else .none
  | _ => appTok H elem size bytes n new (asFO s)

def appA (own : Bool) (H : AH) (elem size bytes : Nat) (s x : Value) : ARes :=
  match lenA x with
  | some 0 => appNone H size s
  | some n => match elemsA H size n x with
    | some new => appOnto own H elem size bytes s n new
    | none => .none
  | none => .none

def copyA (H : AH) (size : Nat) (d x : Value) : ARes :=
  match d, lenA x with
  | .slice (some a) dl _, some xl => match Nat.min xl dl with
    | 0 => .eff (.int .i64 0) H
    | n => match elemsA H size n x with
      | some cs => effV (.int .i64 n) (storeCellsA H a cs)
      | none => .none
  | .slice none 0 _, some _ => .eff (.int .i64 0) H
  | _, _ => .none

def entriesOf : List (Value × Value) → List MapEntry
  | [] => []
  | e :: r => { key := e.1, val := e.2, born := 0 } :: entriesOf r

/-- Where a key stands in a map's row. -/
def findA (P : Program) (empty : Bool) (keyType : TypeId) (k : Value) (es : List (Value × Value)) : Option (Option (Nat × Value)) :=
  pureRun P (do Instr.checkKey empty 10000 keyType k; Instr.findKey keyType k (entriesOf es))

def okd (ok : Bool) (v : Value) (b : Bool) : Value := bif ok then .tuple #[v, .bool b] else v

def lookRes (ok : Bool) (zero : Value) : Option (Option (Nat × Value)) → ARes
  | some (some (_, v)) => val (okd ok v true)
  | some none => val (okd ok zero false)
  | none => .none

def lookA (P : Program) (e : Env) (H : AH) (kt : Nat) (zero : Value) (ok : Bool) (m k : Value) (o : Oper) : ARes :=
  match m with
  | .map (some r) => match H.get r with
    | some (.map es) => bif flat k then lookRes ok zero (findA P es.isEmpty kt k es) else .none
    | _ => .none
  | _ => genA P e o

def updRes (H : AH) (r : Nat) (es : List (Value × Value)) (k x : Value) : Option (Option (Nat × Value)) → ARes
  | some (some (i, _)) => match es[i]? with
    | some e => bif Instr.sameBits 10000 e.1 k then .eff undef (H.set r (.map (es.set i (k, x)))) else .none
    | none => .none
  | some none => .eff undef (H.set r (.map (es ++ [(k, x)])))
  | none => .none

/-- A row of its own that grows, laid into a map, is a frozen one there. -/
def flzF : Option (Nat × Nat × List Value) → Value → Value
  | some p, _ => FL p.2.1 p.2.2
  | none, v => v
def flz (v : Value) : Value := flzF (asFO v) v

def delRes (H : AH) (r : Nat) (es : List (Value × Value)) : Option (Option (Nat × Value)) → ARes
  | some (some (i, _)) => .eff (.tuple #[]) (H.set r (.map (es.eraseIdx i)))
  | some none => .eff (.tuple #[]) (H.set r (.map es))
  | none => .none

def delA (P : Program) (H : AH) (kt : Nat) (m k : Value) : ARes :=
  match m with
  | .map (some r) => match H.get r with
    | some (.map es) => bif flat k && okKey r then delRes H r es (findA P es.isEmpty kt k es) else .none
    | _ => .none
  | _ => .none

def updA0 (P : Program) (H : AH) (kt : Nat) (m k x : Value) : ARes :=
  match m with
  | .map (some r) => match H.get r with
    | some (.map es) => bif flat k && okKey r then updRes H r es k x (findA P false kt k es) else .none
    | _ => .none
  | _ => .none

def updA (P : Program) (H : AH) (kt : Nat) (m k x : Value) : ARes := updA0 P H kt m k (flz x)

def mksliceA (elem size bytes : Nat) (zero : List Value) (fresh : Nat) : Option Nat → Option Nat → ARes
  | some l, some c => bif Nat.ble l c && roomy c bytes then .simple (.slice (some ⟨fresh, 0, none⟩) l (c + 1)) (some (exact (zeroRow zero c) elem)) else .none
  | _, _ => .none

def isU8 : Value → Bool
  | .int .u8 (.ofNat n) => Nat.blt n 256
  | _ => false

def toU8 : Value → UInt8
  | .int .u8 (.ofNat n) => UInt8.ofNat n
  | _ => 0

def b2sF (P : Program) (e : Env) (o : Oper) : Option (Nat × List Value) → ARes
  | some p => bif Nat.ble p.1 p.2.length then (bif (p.2.take p.1).all isU8 then val (.string ⟨((p.2.take p.1).map toU8).toArray⟩) else .none) else .none
  | none => genA P e o

def b2sA (P : Program) (e : Env) (H : AH) (x : Value) (o : Oper) : ARes :=
  match x with
  | .slice (some _) 0 _ => val (.string ⟨#[]⟩)
  | .slice (some a) len c => match elemsA H 1 len (.slice (some a) len c) with
    | some l => bif l.all isU8 then val (.string ⟨(l.map toU8).toArray⟩) else .none
    | none => .none
  | _ => b2sF P e o (asFL x)

def s2bA (elem : Nat) (fresh : Nat) : Value → ARes
  | .string s => .simple (.slice (some ⟨fresh, 0, some 0⟩) s.data.toList.length 0) (some (.cells { cells := u8s s.data.toList, elem := elem, esz := 1, lens := [s.data.toList.length], wver := 0, frz := 0, mark := true, pf := noRefsL (u8s s.data.toList) }))
  | _ => .none

def dynA (P : Program) (f : Value) (args : List Value) : ARes :=
  match f with
  | .func (.func g) first captured => bif hasBody P g then .call g (first.toList ++ args ++ captured.toList) else .none
  | _ => .none

def usdF : Option (Nat × Nat × List Value) → ARes
  | some p => bif Nat.blt 0 p.2.1 then val (OP p.1 p.2.1 p.2.2) else .none
  | none => .none

def usdA (H : AH) (v : Value) : ARes := match v with
  | .slice (some a) (len + 1) 0 => bif openOk 1 a H (len + 1) then val (.pointer (some a)) else .none
  | .slice (some a) _ (c + 2) => val (.pointer (some a))
  | .slice none _ _ => val (.pointer none)
  | _ => usdF (asFO v)

def topuA (P : Program) (e : Env) (H : AH) (v : Value) (o : Oper) : ARes :=
  match v with
  | .pointer (some a) => match rdBlk H a 1 with
    | some _ => val (.pointer (some a))
    | none => .none
  | _ => genA P e o

def rowOk (P : Program) (b : CBlk) (off : Nat) (u : TypeId) : Bool := match b.lens with
  | [] => liesAt P P.depth b.elem (b.cells.length / P.cellsOf b.elem) off u 1
  | _ => false

def frpuA (P : Program) (e : Env) (H : AH) (u : TypeId) (v : Value) (o : Oper) : ARes :=
  match v with
  | .pointer (some a) => match rdBlk H a 1 with
    | some b => bif rowOk P b a.off u then val (.pointer (some a)) else .none
    | none => .none
  | _ => genA P e o

def byteRow (P : Program) (t u : TypeId) : Bool := Nat.beq (P.cellsOf t) 1 && (Nat.blt 0 P.depth && sameLayout P P.depth t u)

def ustrOf (H : AH) (a : Addr) (b : CBlk) (n : Nat) (l : List Value) : ARes :=
  bif l.all isU8 && (!b.mark && okKey a.block) then .eff (.string ⟨(l.map toU8).toArray⟩) (H.set a.block (.cells { b with frz := forceN (a.off + n) fun m => Nat.max b.frz m })) else .none

/-- The text of a row that may grow. -/
def ustrB (P : Program) (H : AH) (u : TypeId) (n m : Nat) (cs : List Value) : Option ABlk → ARes
  | some (.tok k elem esz) => bif Nat.beq k m && (Nat.beq esz 1 && (Nat.ble n m && (byteRow P elem u && (Nat.ble n 9223372036854775807 && (cs.take n).all isU8)))) then .eff (.string ⟨((cs.take n).map toU8).toArray⟩) H else .none
  | _ => .none

def ustrF (P : Program) (H : AH) (u : TypeId) (n : Nat) : Option (Nat × Nat × List Value) → ARes
  | some p => ustrB P H u n p.2.1 p.2.2 (H.get p.1)
  | none => .none

def ustrA (P : Program) (H : AH) (u : TypeId) (v : Value) : Option Nat → ARes
  | some 0 => match v with
    | .pointer _ => val (.string ⟨#[]⟩)
    | _ => .none
  | some (n + 1) => match v with
    | .pointer (some a) => match rdBlk H a (n + 1) with
      | some b => bif byteRow P b.elem u && Nat.ble (n + 1) 9223372036854775807 then ustrOf H a b (n + 1) (slotsOf b.cells a.off (n + 1)) else .none
      | none => .none
    | _ => ustrF P H u (n + 1) (asOP v)
  | none => .none

def fillRes (elem len : Nat) (fresh : Nat) : Option (List Value) → ARes
  | some cs => .simple (.slice (some ⟨fresh, 0, none⟩) len (len + 1)) (some (exact cs elem))
  | none => .none

def buildRes : Option (List Value) → ARes
  | some cs => val (.agg cs.toArray)
  | none => .none

/-- What a ready operation does. -/
def insA (P : Program) (e : Env) (H : AH) (fresh : Nat) : Ins → ARes
  | .mv x => val (evl e x)
  | .pick c a b => pickA (evl e a) (evl e b) (evl e c)
  | .new zero elem => .simple (.pointer (some ⟨fresh, 0, none⟩)) (some (exact zero elem))
  | .box elem x => bif isJK (evl e x) then .none else .simple (.pointer (some ⟨fresh, 0, none⟩)) (some (exact (evl e x).cells.toList elem))
  | .build zero parts => buildRes (fillR zero (evParts e parts))
  | .bslice elem len zero parts => fillRes elem len fresh (fillR zero (evParts e parts))
  | .load1 x => load1A H (evl e x)
  | .loadN size x => loadNA H size (evl e x)
  | .store size x y => storeA H size (evl e x) (evl e y)
  | .nilc x => nilcA (evl e x)
  | .int2 op x y o => int2A P e op (evl e x) (evl e y) o
  | .ref neg d x y => refA neg d (evl e x) (evl e y)
  | .faddr off x => faddrA off (evl e x)
  | .iaddrA len size x i => iaddrAA len size (evl e x) (evl e i)
  | .iaddrS size x i => iaddrSA size (evl e x) (evl e i)
  | .fld1 off x => fld1A off (evl e x)
  | .fldN off size x => fldNA off size (evl e x)
  | .idx1 len size x i => idx1A len size (evl e x) (evl e i)
  | .idxN len size x i => idxNA len size (evl e x) (evl e i)
  | .slS size x lo hi mx o => slSA P e H size (evl e x) lo hi mx o
  | .slA n size x lo hi => slAA e n size (evl e x) lo hi
  | .len x o => lenIA P e (evl e x) o
  | .lenM x o => lenMA P e H (evl e x) o
  | .capI x => capIA (evl e x)
  | .ext x i => extA i (evl e x)
  | .iface t x => val (.iface t (evl e x))
  | .mkfn fn first captured => val (.func fn (evls e first).toArray (evls e captured).toArray)
  | .app elem size bytes s x => appA e.g.2 H elem size bytes (evl e s) (evl e x)
  | .copy size d s => copyA H size (evl e d) (evl e s)
  | .mkmap => .simple (.map (some fresh)) (some (.map []))
  | .look kt zero ok m k o => lookA P e H kt zero ok (evl e m) (evl e k) o
  | .upd kt m k x => updA P H kt (evl e m) (evl e k) (evl e x)
  | .del kt m k => delA P H kt (evl e m) (evl e k)
  | .mkslice elem size bytes zero l c => mksliceA elem size bytes zero fresh (asNat (evl e l)) (asNat (evl e c))
  | .b2s x o => b2sA P e H (evl e x) o
  | .s2b elem x => s2bA elem fresh (evl e x)
  | .call f args => .call f (evls e args)
  | .dyn f args => dynA P (evl e f) (evls e args)
  | .usd x => usdA H (evl e x)
  | .topu x o => topuA P e H (evl e x) o
  | .frpu u x o => frpuA P e H u (evl e x) o
  | .ustr u x n => ustrA P H u (evl e x) (asNat (evl e n))
  | .mknz elem x => mknzA H elem (evl e x)
  | .gen o => genA P e o

end
end Go.Den
