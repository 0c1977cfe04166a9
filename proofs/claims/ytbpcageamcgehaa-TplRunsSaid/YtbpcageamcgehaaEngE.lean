/-
  THE ENGINE, part E: what a text does, by abstract values.
-/
import Derived.Test.YtbpcageamcgehaaEngD
namespace Go.Den
noncomputable section

mutual
def beqV : Value → Value → Bool
  | .bool a, .bool b => a == b
  | .int k a, .int j b => sameKind k j && eqF a b
  | .float k a, .float j b => k == j && Nat.beq a b
  | .complex k a c, .complex j b d => k == j && (Nat.beq a b && Nat.beq c d)
  | .string a, .string b => a.data.toList == b.data.toList
  | .pointer none, .pointer none => true
  | .pointer (some a), .pointer (some b) => Nat.beq a.block b.block && (Nat.beq a.off b.off && a.spot == b.spot)
  | .slice none l c, .slice none m d => Nat.beq l m && Nat.beq c d
  | .slice (some a) l c, .slice (some b) m d => Nat.beq a.block b.block && (Nat.beq a.off b.off && (a.spot == b.spot && (Nat.beq l m && Nat.beq c d)))
  | .map a, .map b => a == b
  | .nilFunc, .nilFunc => true
  | .nilIface, .nilIface => true
  | .func f a c, .func g b d => f == g && (beqA a b && beqA c d)
  | .iface t a, .iface u b => Nat.beq t u && beqV a b
  | .agg a, .agg b => beqA a b
  | .tuple a, .tuple b => beqA a b
  | _, _ => false
def beqA : Array Value → Array Value → Bool
  | ⟨a⟩, ⟨b⟩ => beqL a b
def beqL : List Value → List Value → Bool
  | [], [] => true
  | a :: r, b :: s => beqV a b && beqL r s
  | _, _ => false
end

def beqP : List (Value × Value) → List (Value × Value) → Bool
  | [], [] => true
  | a :: r, b :: s => beqV a.1 b.1 && (beqV a.2 b.2 && beqP r s)
  | _, _ => false

def beqC (a b : CBlk) : Bool := beqL a.cells b.cells && (Nat.beq a.elem b.elem && (Nat.beq a.esz b.esz && (a.lens == b.lens && (Nat.beq a.wver b.wver && (Nat.beq a.frz b.frz && a.mark == b.mark)))))

def beqB : ABlk → ABlk → Bool
  | .cells a, .cells b => beqC a b
  | .map a, .map b => beqP a b
  | _, _ => false

/- TEXTS MADE READY -/

structure COp where
  dst : Option Tmp
  guard : Option (Option Tmp × Bool)
  ins : Option Ins

def compGuard (ops : Array Oper) : Option (Nat × Bool) → Option (Option Tmp × Bool)
  | none => none
  | some (j, want) => some ((ops[j]?).bind (·.dst), want)

def compO (P : Program) (ops : Array Oper) (o : Oper) : COp := { dst := o.dst, guard := compGuard ops o.guard, ins := comp P o }

def compOps (P : Program) (ops : Array Oper) (l : List Oper) : List COp := List.rec [] (fun o _ ih => compO P ops o :: ih) l

inductive AExit where
  | normal
  | exit (id : Nat)
  | goto (l : Nat)
  | ret

inductive Task where
  | code (c : Code) (e : Env)
  | call (f : FuncId) (args : List Value)

inductive Out where
  | code (x : AExit) (e : Env)
  | val (v : Value)

def isB (want : Bool) : Value → Bool
  | .bool b => b == want
  | _ => false

def wantedA (g : Option (Option Tmp × Bool)) (e : Env) : Bool :=
  match g with
  | none => true
  | some (some d, want) => isB want (e.get d)
  | some (none, _) => false

abbrev Rec := Task → AH → Option (Out × AH)

/-- What one operation did: its value; if it made a block, which; if it had an effect, the heap behind it; the heap. -/
inductive Did where
  | none
  | did (v : Value) (nb : Option ABlk) (eff : Bool) (H : AH)

def didCall : Option (Out × AH) → Did
  | some (.val v, H') => .did v .none true H'
  | _ => .none

def didRes (rec : Rec) (H : AH) : ARes → Did
  | .none => .none
  | .simple v .none => .did v .none false H
  | .simple v (some b) => bif okKey H.n then .did v (some b) false (H.push b) else .none
  | .eff v H' => bif Nat.ble H.n H'.n then .did v .none true H' else .none
  | .call f args => didCall (rec (.call f args) H)

def stepA (P : Program) (rec : Rec) (e : Env) (H : AH) : Option Ins → Did
  | some i => didRes rec H (insA P e H H.n i)
  | none => .none

def opsK (d : Did) (dst : Option Tmp) (e : Env) (K : Env → AH → Option (Env × AH)) : Option (Env × AH) :=
  match d with
  | .did v _ _ H' => K (e.put dst v) H'
  | .none => none

/-- The operations of a region, in their order. -/
def opsA (P : Program) (rec : Rec) (l : List COp) : Env → AH → Option (Env × AH) :=
  List.rec (fun e H => some (e, H)) (fun o _ ih e H => bif wantedA o.guard e then opsK (stepA P rec e H o.ins) o.dst e ih else ih (e.put o.dst undef) H) l

/-- A record of what one operation did: its place, the frame ahead, its answer; the block that it made, and its number; the heap behind it, if it had an effect. -/
structure Tr where
  i : Nat
  o : COp
  e : Env
  h : AH
  want : Bool
  v : Value
  nb : Option ABlk
  id : Nat
  eff : Option AH

def opsT (P : Program) (rec : Rec) : List COp → Nat → Env → AH → Option (Env × AH × List Tr)
  | [], _, e, H => some (e, H, [])
  | o :: r, i, e, H => bif wantedA o.guard e then
      match stepA P rec e H o.ins with
      | .did v nb eff H' => match opsT P rec r (i + 1) (e.put o.dst v) H' with
        | some (e2, H2, l) => some (e2, H2, { i := i, o := o, e := e, h := H, want := true, v := v, nb := nb, id := H.n, eff := if eff then some H' else none } :: l)
        | none => none
      | .none => none
    else match opsT P rec r (i + 1) (e.put o.dst undef) H with
      | some (e2, H2, l) => some (e2, H2, { i := i, o := o, e := e, h := H, want := false, v := undef, nb := none, id := H.n, eff := none } :: l)
      | none => none

/-- Does an operation look at the heap, or make a block? -/
def looks : Option Ins → Bool
  | some i => match i with
    | .new _ _ | .box _ _ | .bslice _ _ _ _ | .load1 _ | .loadN _ _ | .slS _ _ _ _ _ _ | .lenM _ _ | .mkmap | .look _ _ _ _ _ _ | .mkslice _ _ _ _ _ _ | .b2s _ _ | .s2b _ _ | .usd _ | .topu _ _ | .frpu _ _ _ | .ustr _ _ _ => true
    | _ => false
  | none => false

/-- A heap as it is behind some effects, with all blocks that simple operations make. -/
def fillHeap (n : Nat) : List Tr → AH → AH
  | [], G => { n := n, t := G.t }
  | x :: r, G => match x.nb with
    | some b => bif Nat.ble G.n x.id then fillHeap n r { n := G.n, t := T.put b 40 G.t x.id } else fillHeap n r G
    | none => fillHeap n r G

/-- The effects' places and the heaps behind them. -/
def effectsOf : List Tr → List (Nat × AH)
  | [] => []
  | x :: r => match x.eff with
    | some G => (x.i, G) :: effectsOf r
    | none => effectsOf r

def sameRes (x : Tr) (X : AH) : ARes → Bool
  | .simple v nb => beqV v x.v && (match nb, x.nb with
    | none, none => true
    | some b, some c => beqB b c && (match X.get x.id with | some d => beqB d c | none => false)
    | _, _ => false)
  | _ => false

/-- One simple operation, at each heap at which it may run. A row (j, X): X: the heap behind the effect j. -/
def sameAt (P : Program) (x : Tr) (bx : Nat) (before : Array Nat) : List (Nat × AH) → Bool
  | [] => true
  | (j, X) :: r =>
      (bif (before.getD j 0).testBit x.i then true
       else bif r.any (fun y => bx.testBit y.1) then true
       else match x.o.ins with
         | some i => sameRes x X (insA P x.e X x.id i)
         | none => false) && sameAt P x bx before r

def sameAll (P : Program) (before : Array Nat) (Xs : List (Nat × AH)) : List Tr → Bool
  | [] => true
  | x :: r => (bif x.want && (x.eff.isNone && looks x.o.ins) then sameAt P x (before.getD x.i 0) before Xs else true) && sameAll P before Xs r

/-- Effects stand in one row. -/
def chained (before : Array Nat) : List (Nat × AH) → Bool
  | [] => true
  | [_] => true
  | (i, _) :: (j, G) :: r => (before.getD j 0).testBit i && chained before ((j, G) :: r)

def namesOf (o : Oper) (ops : Array Oper) : List Tmp :=
  o.dst.toList ++ (match o.guard with | some (j, _) => ((ops[j]?).bind (·.dst)).toList | none => []) ++ o.op.operands.toList.filterMap fun | .tmp t => some t | _ => none

/-- Whoever names what another writes stands in a row with it. -/
def namesOk (ops : Array Oper) (before : Array Nat) : Bool :=
  ops.toList.zipIdx.all fun (o, i) => (ops.toList.zipIdx.all fun (p, j) => i == j || (match p.dst with
    | none => true
    | some d => !((namesOf o ops).contains d) || (before.getD (max i j) 0).testBit (min i j)))

def edgesOk (ops : Array Oper) : Bool := ops.toList.zipIdx.all fun (o, i) => o.after.toList.all fun e => !Region.binds .any e || Nat.blt e.on i

def staticOk (ops : Array Oper) : Bool := edgesOk ops && namesOk ops (Region.before ops)

def heaps (n : Nat) (H2 : AH) (l : List Tr) (H : AH) (effs : List (Nat × AH)) : List (Nat × AH) := ((n, H) :: effs).map fun y => (y.1, fillHeap H2.n l y.2)

def lastX (X : AH) : List (Nat × AH) → AH
  | [] => X
  | (_, Y) :: r => lastX Y r

def drawK (P : Program) (ops : Array Oper) (H : AH) : Option (Env × AH × List Tr) → Option (Env × AH)
  | some (e2, H2, l) => bif staticOk ops && (chained (Region.before ops) (effectsOf l) && sameAll P (Region.before ops) (heaps ops.size H2 l H (effectsOf l)) l) then some (e2, lastX H (heaps ops.size H2 l H (effectsOf l))) else none
  | none => none

def drawA (P : Program) (rec : Rec) (ops : Array Oper) (e : Env) (H : AH) : Option (Env × AH) :=
  drawK P ops H (opsT P rec (compOps P ops ops.toList) 0 e H)

/- RESULTS -/

inductive CRes where
  | tmp (t : Tmp)
  | cell1 (t : Tmp)
  | cellN (t : Tmp) (size : Nat)
  | bad

def compRes (P : Program) : ResultVar → CRes
  | .tmp t => .tmp t
  | .cell t ty => match tyInfo P ty, tyU P ty with
    | some i, some d => bif isAggD d then .cellN t i.size else .cell1 t
    | _, _ => .bad

def resV : ARes → Option Value
  | .simple v none => some v
  | _ => none

def resA (H : AH) (e : Env) : CRes → Option Value
  | .tmp t => some (e.get t)
  | .cell1 t => resV (load1A H (e.get t))
  | .cellN t size => resV (loadNA H size (e.get t))
  | .bad => none

def resultsA (P : Program) (H : AH) (e : Env) : List ResultVar → Option (List Value)
  | [] => some []
  | x :: r => match resA H e (compRes P x), resultsA P H e r with
    | some v, some l => some (v :: l)
    | _, _ => none

def envOf : List Value → Nat → T Value → T Value
  | [], _, t => t
  | v :: r, k, t => envOf r (k + 1) (T.put v 40 t k)

/- THE STEP -/

def normalK : Option (Env × AH) → Option (Out × AH)
  | some (e', H') => some (.code .normal e', H')
  | none => none

def seqK (K : Env → AH → Option (Out × AH)) : Option (Out × AH) → Option (Out × AH)
  | some (.code .normal e', H') => K e' H'
  | r => r

def blockK (id : Nat) : Option (Out × AH) → Option (Out × AH)
  | some (.code (.exit j) e', H') => bif Nat.beq j id then some (.code .normal e', H') else some (.code (.exit j) e', H')
  | r => r

def oneOrTuple : List Value → Value
  | [v] => v
  | l => .tuple l.toArray

def valK (H : AH) : Option (List Value) → Option (Out × AH)
  | some l => some (.val (oneOrTuple l), H)
  | none => none

def isEnd : AExit → Bool
  | .normal | .ret => true
  | _ => false

def callK (P : Program) (fn : Func) : Option (Out × AH) → Option (Out × AH)
  | some (.code x e, H') => bif isEnd x then valK H' (resultsA P H' e fn.results.toList) else none
  | _ => none

def callA (P : Program) (rec : Rec) (args : List Value) (H : AH) : Option Func → Option (Out × AH)
  | some fn => match fn.body with
    | some c => bif Nat.ble args.length fn.ntmps && okKey fn.ntmps then callK P fn (rec (.code c { n := fn.ntmps, t := envOf args 0 .leaf }) H) else none
    | none => none
  | none => none

def condK (rec : Rec) (a b : Code) (e : Env) (H : AH) : Value → Option (Out × AH)
  | .bool true => rec (.code a e) H
  | .bool false => rec (.code b e) H
  | _ => none

def codeA (P : Program) (rec : Rec) (e : Env) (H : AH) : Code → Option (Out × AH)
  | .skip => some (.code .normal e, H)
  | .label _ => some (.code .normal e, H)
  | .ret => some (.code .ret e, H)
  | .exit id => some (.code (.exit id) e, H)
  | .goto l => some (.code (.goto l) e, H)
  | .region _ ops false => normalK (opsA P rec (compOps P ops ops.toList) e H)
  | .region _ ops true => normalK (drawA P rec ops e H)
  | .seq a b => seqK (fun e' H' => rec (.code b e') H') (rec (.code a e) H)
  | .cond c a b => bif okOpd c then condK rec a b e H (evl e c) else none
  | .block id c => blockK id (rec (.code c e) H)
  | .loop c => seqK (fun e' H' => rec (.code (.loop c) e') H') (rec (.code c e) H)
  | _ => none

def denStep (P : Program) (rec : Rec) (task : Task) (H : AH) : Option (Out × AH) :=
  match task with
  | .call f args => callA P rec args H P.funcs[f]?
  | .code c e => codeA P rec e H c

def den (P : Program) (n : Nat) : Task → AH → Option (Out × AH) := Nat.rec (fun _ _ => none) (fun _ ih => denStep P ih) n

end
end Go.Den
