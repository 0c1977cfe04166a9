/-
  THE ENGINE, part E: what a text does, by abstract values.
-/
import Derived.Test.YtjihbfdbgamcdaaGreatDoorE2O
namespace Go.Den
noncomputable section

/- TEXTS MADE READY -/

structure COp where
  dst : Option Tmp
  guard : Option (Option Tmp × Bool)
  ins : Option Ins

def compGuard (ops : Array Oper) : Option (Nat × Bool) → Option (Option Tmp × Bool)
  | none => none
  | some (j, want) => some ((ops[j]?).bind (·.dst), want)

def compO (P : Program) (ops : Array Oper) (o : Oper) : COp := { dst := o.dst, guard := compGuard ops o.guard, ins := comp P o }

def compOps (P : Program) (ops : Array Oper) (l : List Oper) : List COp := List.rec [] (fun o _ ih => compO P ops o :: ih) l

inductive AExit where
  | normal
  | exit (id : Nat)
  | goto (l : Nat)
  | ret

/-- What one operation did: its value; if it made a block, which; if it had an effect; the heap; which blocks it may have changed. -/
inductive Did where
  | none
  | did (v : Value) (nb : Option ABlk) (eff : Bool) (H : AH) (wr : List Nat)

abbrev Calls0 := FuncId → List Value → AH → Did

/-- The block of an address. -/
def idOf : Value → List Nat
  | .pointer (some a) => [a.block]
  | .slice (some a) _ _ => [a.block]
  | .map (some r) => [r]
  | .func _ _ ⟨[.map (some t)]⟩ => [t]
  | _ => []

/-- Which blocks an operation with an effect may change. -/
def effWr (e : Env) : Ins → List Nat
  | .store _ x _ => idOf (evl e x)
  | .app _ _ _ s _ => idOf (evl e s)
  | .copy _ d _ => idOf (evl e d)
  | .upd _ m _ _ => idOf (evl e m)
  | .del _ m _ => idOf (evl e m)
  | .ustr _ x _ => idOf (evl e x)
  | _ => []

def didRes (cs : Calls0) (wr : List Nat) (H : AH) : ARes → Did
  | .none => .none
  | .simple v .none => .did v .none false H []
  | .simple v (some b) => bif okKey H.n then .did v (some b) false (H.push b) [] else .none
  | .eff v H' => bif Nat.ble H.n H'.n then .did v .none true H' wr else .none
  | .call f args => cs f args H

def stepA (P : Program) (cs : Calls0) (e : Env) (H : AH) : Option Ins → Did
  | some i => didRes cs (effWr e i) H (insA P e H H.n i)
  | none => .none

/-- Is an operation's turn asked for? none: it isn't known. -/
def gselV (want : Bool) : Value → Option Bool
  | .bool b => some (b == want)
  | .tuple ⟨[]⟩ => some false
  | _ => none

def gsel (g : Option (Option Tmp × Bool)) (e : Env) : Option Bool :=
  match g with
  | none => some true
  | some (some d, want) => gselV want (e.get d)
  | some (none, _) => some false

def didG (g : Option Bool) (d : Did) (H : AH) : Did := match g with
  | some true => d
  | some false => .did undef .none false H []
  | none => .none

/-- A record of what one operation did: its place, the frame ahead, its answer; the block that it made, and its number; the heap behind it, if it had an effect. -/
structure Tr where
  i : Nat
  o : COp
  e : Env
  h : AH
  want : Bool
  v : Value
  nb : Option ABlk
  id : Nat
  eff : Option AH
  wr : List Nat

def opsT (P : Program) (cs : Calls0) : List COp → Nat → Env → AH → Option (Env × AH × List Tr)
  | [], _, e, H => some (e, H, [])
  | o :: r, i, e, H => match gsel o.guard e with
    | some true =>
      (match stepA P cs e H o.ins with
      | .did v nb eff H' wr => match opsT P cs r (i + 1) (e.put o.dst v) H' with
        | some (e2, H2, l) => some (e2, H2, { i := i, o := o, e := e, h := H, want := true, v := v, nb := nb, id := H.n, eff := if eff then some H' else none, wr := wr } :: l)
        | none => none
      | .none => none)
    | some false => (match opsT P cs r (i + 1) (e.put o.dst undef) H with
      | some (e2, H2, l) => some (e2, H2, { i := i, o := o, e := e, h := H, want := false, v := undef, nb := none, id := H.n, eff := none, wr := [] } :: l)
      | none => none)
    | none => none

/-- Does an operation look at the heap, or make a block? -/
def looks : Option Ins → Bool
  | some i => match i with
    | .new _ _ | .box _ _ | .bslice _ _ _ _ | .load1 _ | .loadN _ _ | .slS _ _ _ _ _ _ | .lenM _ _ | .mkmap | .look _ _ _ _ _ _ | .mkslice _ _ _ _ _ _ | .b2s _ _ | .s2b _ _ | .usd _ | .topu _ _ | .frpu _ _ _ | .ustr _ _ _ => true
    | _ => false
  | none => false

/-- A heap as it is behind some effects, with all blocks that simple operations make. -/
def fillHeap (n : Nat) : List Tr → AH → AH
  | [], G => { n := n, t := G.t }
  | x :: r, G => match x.nb with
    | some b => bif Nat.ble G.n x.id then fillHeap n r { n := G.n, t := T.put b 40 G.t x.id } else fillHeap n r G
    | none => fillHeap n r G

/-- The effects' places and the heaps behind them. -/
def effectsOf : List Tr → List (Nat × AH)
  | [] => []
  | x :: r => match x.eff with
    | some G => (x.i, G) :: effectsOf r
    | none => effectsOf r

/-- Effects stand in one row. -/
def chained (before : Array Nat) : List (Nat × AH) → Bool
  | [] => true
  | [_] => true
  | (i, _) :: (j, G) :: r => (before.getD j 0).testBit i && chained before ((j, G) :: r)

def namesOf (o : Oper) (ops : Array Oper) : List Tmp :=
  o.dst.toList ++ (match o.guard with | some (j, _) => ((ops[j]?).bind (·.dst)).toList | none => []) ++ o.op.operands.toList.filterMap fun | .tmp t => some t | _ => none

/-- Whoever names what another writes stands in a row with it. -/
def namesOk (ops : Array Oper) (before : Array Nat) : Bool :=
  ops.toList.zipIdx.all fun (o, i) => (ops.toList.zipIdx.all fun (p, j) => i == j || (match p.dst with
    | none => true
    | some d => !((namesOf o ops).contains d) || (before.getD (max i j) 0).testBit (min i j)))

def edgesOk (ops : Array Oper) : Bool := ops.toList.zipIdx.all fun (o, i) => o.after.toList.all fun e => !Region.binds .any e || Nat.blt e.on i

def staticOk (ops : Array Oper) : Bool := edgesOk ops && namesOk ops (Region.before ops)

def heaps (n : Nat) (H2 : AH) (l : List Tr) (H : AH) (effs : List (Nat × AH)) : List (Nat × AH) := ((n, H) :: effs).map fun y => (y.1, fillHeap H2.n l y.2)

def lastX (X : AH) : List (Nat × AH) → AH
  | [] => X
  | (_, Y) :: r => lastX Y r

/- RESULTS -/

inductive CRes where
  | tmp (t : Tmp)
  | cell1 (t : Tmp)
  | cellN (t : Tmp) (size : Nat)
  | bad

def compRes (P : Program) : ResultVar → CRes
  | .tmp t => .tmp t
  | .cell t ty => match tyInfo P ty, tyU P ty with
    | some i, some d => bif isAggD d then .cellN t i.size else .cell1 t
    | _, _ => .bad

def resV : ARes → Option Value
  | .simple v none => some v
  | _ => none

def resA (H : AH) (e : Env) : CRes → Option Value
  | .tmp t => some (e.get t)
  | .cell1 t => resV (load1A H (e.get t))
  | .cellN t size => resV (loadNA H size (e.get t))
  | .bad => none

def resultsA (P : Program) (H : AH) (e : Env) : List ResultVar → Option (List Value)
  | [] => some []
  | x :: r => match resA H e (compRes P x), resultsA P H e r with
    | some v, some l => some (v :: l)
    | _, _ => none

def envOf : List Value → Nat → T Value → T Value
  | [], _, t => t
  | v :: r, k, t => envOf r (k + 1) (T.put v 40 t k)

def oneOrTuple : List Value → Value
  | [v] => v
  | l => .tuple l.toArray

/- REGIONS -/

abbrev KR (R : Type) := Env → AH → Option R

def opsK {R : Type} (d : Did) (dst : Option Tmp) (e : Env) (K : KR R) : Option R :=
  match d with
  | .did v _ _ H' _ => K (e.put dst v) H'
  | .none => none

/-- The operations of a region, in their order. -/
def opsA {R : Type} (P : Program) (cs : Calls0) (K : KR R) (l : List COp) : KR R :=
  List.rec K (fun o _ ih e H => opsK (didG (gsel o.guard e) (stepA P cs e H o.ins) H) o.dst e ih) l

/-- What an operation that isn't an effect reads. -/
def rdIds (e : Env) : Ins → List Nat
  | .load1 x => idOf (evl e x)
  | .loadN _ x => idOf (evl e x)
  | .slS _ x _ _ _ _ => idOf (evl e x)
  | .lenM x _ => idOf (evl e x)
  | .look _ _ _ m _ _ => idOf (evl e m)
  | .b2s x _ => idOf (evl e x)
  | .usd x => idOf (evl e x)
  | .topu x _ => idOf (evl e x)
  | .frpu _ x _ => idOf (evl e x)
  | .ustr _ x _ => idOf (evl e x)
  | _ => []

def optRd (e : Env) : Option Ins → List Nat
  | some i => rdIds e i
  | none => []

/-- Of one operation that was run: its place; what it reads; if it is an effect: what it may change, and its new numbers. -/
structure Ti where
  i : Nat
  rd : List Nat
  eff : Option (List Nat × Nat × Nat)

def tiRd (nb : Option ABlk) (n : Nat) (l : List Nat) : List Nat := match nb with
  | some _ => n :: l
  | none => l

def tiOf (g : Option Bool) (i : Nat) (o : COp) (e : Env) (H : AH) (nb : Option ABlk) (eff : Bool) (H' : AH) (wr : List Nat) (acc : List Ti) : List Ti := match g with
  | some true => (bif eff then ⟨i, [], some (wr, H.n, H'.n)⟩ else ⟨i, tiRd nb H.n (bif looks o.ins then optRd e o.ins else []), none⟩) :: acc
  | _ => acc

def clear1 (p : List Nat × Nat × Nat) (id : Nat) : Bool := !(p.1.contains id) && !(Nat.ble p.2.1 id && Nat.blt id p.2.2)

def sep2 (before : Array Nat) (x y : Ti) : Bool := match x.eff, y.eff with
  | none, some p => (before.getD y.i 0).testBit x.i || ((before.getD x.i 0).testBit y.i || x.rd.all (clear1 p))
  | _, _ => true

def sepAll (before : Array Nat) (l : List Ti) : Bool := l.all fun x => l.all fun y => sep2 before x y

def chainTi (before : Array Nat) : List Ti → Bool
  | [] => true
  | x :: r => (match x.eff with
    | some _ => r.all fun y => match y.eff with
      | some _ => (before.getD y.i 0).testBit x.i
      | none => true
    | none => true) && chainTi before r

def drawEnd {R : Type} (ops : Array Oper) (acc : List Ti) (K : KR R) (e : Env) (H : AH) : Option R :=
  bif chainTi (Region.before ops) acc.reverse && sepAll (Region.before ops) acc then K e H else none

def opsKD {R : Type} (d : Did) (o : COp) (i : Nat) (acc : List Ti) (e : Env) (H : AH) (K : Nat → List Ti → KR R) : Option R :=
  match d with
  | .did v nb eff H' wr => K (Nat.succ i) (tiOf (gsel o.guard e) i o e H nb eff H' wr acc) (e.put o.dst v) H'
  | .none => none

def opsD {R : Type} (P : Program) (cs : Calls0) (ops : Array Oper) (K : KR R) (l : List COp) : Nat → List Ti → KR R :=
  List.rec (fun _ acc e H => drawEnd ops acc K e H) (fun o _ ih i acc e H => opsKD (didG (gsel o.guard e) (stepA P cs e H o.ins) H) o i acc e H ih) l

def drawA {R : Type} (P : Program) (cs : Calls0) (ops : Array Oper) (K : KR R) (e : Env) (H : AH) : Option R :=
  bif staticOk ops then opsD P cs ops K (compOps P ops ops.toList) 0 [] e H else none

/- SEALING: live rows become frozen ones -/

/-- Which cells are frozen: of this block, as far as this. -/
abbrev Frs := List (Nat × Nat)

def sealC : Option (List Value × Frs) → Option (List Value × Frs) → Option (List Value × Frs)
  | some (a, f), some (b, g) => some (a ++ b, f ++ g)
  | _, _ => none

def elemSize (P : Program) (b : CBlk) : Nat := match b.lens with
  | [] => (match tyInfo P b.elem with | some i => i.size | none => 0)
  | _ => b.esz

/-- Is a row's room known to hold it? -/
def capOk (H : AH) (size len : Nat) (a : Addr) : Nat → Bool
  | 0 => openOk size a H (len * size)
  | c + 1 => Nat.ble len c && Nat.blt 0 size

/-- A live row, frozen: sl: how its cells are. -/
def sealRow (P : Program) (H : AH) (sl : List Value → Option (List Value × Frs)) (a : Addr) (len c : Nat) : Option (Value × Frs) :=
  match H.get a.block with
  | some (.cells b) =>
    bif capOk H (elemSize P b) len a c && rdOk b (aver a) (a.off + len * elemSize P b) then
      (match (bif b.pf then some (slotsOf b.cells a.off (len * elemSize P b), []) else sl (slotsOf b.cells a.off (len * elemSize P b))) with
      | some (cs, f) => bif noRefsL cs && okKey a.block then some (FL len cs, (a.block, a.off + len * elemSize P b) :: f) else none
      | none => none)
    else none
  | _ => none

def sealV1 (P : Program) (H : AH) (sl : List Value → Option (List Value × Frs)) (v : Value) : Option (Value × Frs) := match v with
  | .slice none 0 0 => some (FL 0 [], [])
  | .slice (some _) 0 _ => some (FL 0 [], [])
  | .slice (some a) (n + 1) c => sealRow P H sl a (n + 1) c
  | .agg ⟨cs⟩ => (match sl cs with | some (l, f) => some (.agg ⟨l⟩, f) | none => none)
  | .tuple ⟨cs⟩ => (match sl cs with | some (l, f) => some (.tuple ⟨l⟩, f) | none => none)
  | .iface t v => (match sl [v] with | some ([u], f) => some (.iface t u, f) | _ => none)
  | .func (.yield n) ⟨cs⟩ ⟨[.map (some _)]⟩ => some (FL n cs, [])
  | .func (.func g) ⟨f⟩ ⟨c⟩ => (match sl f, sl c with | some (a, p), some (b, q) => some (.func (.func g) ⟨a⟩ ⟨b⟩, p ++ q) | _, _ => none)
  | v => some (v, [])

def one2 : Option (Value × Frs) → Option (List Value × Frs)
  | some (v, f) => some ([v], f)
  | none => none

def sealL (P : Program) (H : AH) (d : Nat) : List Value → Option (List Value × Frs) :=
  Nat.rec (fun _ => none) (fun _ ih l => List.rec (some ([], [])) (fun v _ r => sealC (one2 (sealV1 P H ih v)) r) l) d

def frzBlk (n : Nat) : Option ABlk → Option ABlk
  | some (.cells b) => some (.cells { b with frz := Nat.max b.frz n })
  | o => o

def frz1 (H : AH) (id n : Nat) : Option ABlk → AH
  | some b => H.set id b
  | none => H

def raise (H : AH) (l : Frs) : AH := List.rec H (fun p _ ih => frz1 ih p.1 p.2 (frzBlk p.2 (ih.get p.1))) l

/- RENUMBERING -/

mutual
/-- Live addresses: blocks and versions. -/
def refs : Value → List (Nat × Nat)
  | .pointer (some a) => [(a.block, aver a)]
  | .slice (some a) n c => bif Nat.beq n 0 && Nat.ble c 1 then [] else [(a.block, aver a)]
  | .map (some r) => [(r, 0)]
  | .func fn f c => match fn with
    | .yield n => refsTok n c
    | _ => refsA f ++ refsA c
  | .iface _ v => refs v
  | .agg cs => refsA cs
  | .tuple vs => refsA vs
  | _ => []
def refsA : Array Value → List (Nat × Nat)
  | ⟨l⟩ => refsL l
def refsL : List Value → List (Nat × Nat)
  | [] => []
  | v :: r => refs v ++ refsL r
def refsTok (n : Nat) : Array Value → List (Nat × Nat)
  | ⟨.map (some t) :: _⟩ => [(t, n)]
  | _ => []
end

mutual
/-- Who holds the room of rows; maps. -/
def toks : Value → List Nat
  | .map (some r) => [r]
  | .func fn f c => match fn with
    | .yield _ => toksTok c
    | _ => toksA f ++ toksA c
  | .iface _ v => toks v
  | .agg cs => toksA cs
  | .tuple vs => toksA vs
  | _ => []
def toksA : Array Value → List Nat
  | ⟨l⟩ => toksL l
def toksL : List Value → List Nat
  | [] => []
  | v :: r => toks v ++ toksL r
def toksTok : Array Value → List Nat
  | ⟨.map (some t) :: _⟩ => [t]
  | _ => []
end

def toksM : List (Value × Value) → List Nat
  | [] => []
  | e :: r => toks e.2 ++ toksM r

def toksB : Option ABlk → List Nat
  | some (.cells b) => bif b.pf then [] else toksL b.cells
  | some (.map es) => toksM es
  | _ => []

def refsM : List (Value × Value) → List (Nat × Nat)
  | [] => []
  | e :: r => refs e.2 ++ refsM r

def refsB : Option ABlk → List (Nat × Nat)
  | some (.cells b) => bif b.pf then [] else refsL b.cells
  | some (.map es) => refsM es
  | _ => []

def memN (n : Nat) : List Nat → Bool
  | [] => false
  | a :: r => bif Nat.beq a n then true else memN n r

/-- All blocks that are met from these: in order. -/
def clo (H : AH) (d : Nat) : List Nat → List Nat → Option (List Nat) :=
  Nat.rec (fun _ _ => none) (fun _ ih done todo => List.rec (some done) (fun id r _ => bif memN id done then ih done r else ih (done ++ [id]) (r ++ (refsB (H.get id)).map (·.1))) todo) d

def topOf : Option ABlk → Nat
  | some (.cells b) => b.top
  | _ => 0

def isOpen : Option ABlk → Bool
  | some (.cells b) => (match b.lens with | [] => false | _ => true)
  | _ => false

def idxOf (n : Nat) : List Nat → Nat → Nat
  | [], k => k
  | a :: r, k => bif Nat.beq a n then k else idxOf n r (k + 1)

/-- How numbers and versions are turned. -/
abbrev Nm := Nat → Nat → Nat × Nat

def renSpot : Option Nat → Nat → Option Nat
  | none, 0 => none
  | _, s => some s

def renA (m : Nm) (a : Addr) : Addr := ⟨(m a.block (aver a)).1, a.off, renSpot a.spot (m a.block (aver a)).2⟩

mutual
def renV (m : Nm) : Value → Value
  | .pointer (some a) => .pointer (some (renA m a))
  | .slice (some a) n c => bif Nat.beq n 0 && Nat.ble c 1 then .slice (some a) n c else .slice (some (renA m a)) n c
  | .map (some r) => .map (some (m r 0).1)
  | .func fn f c => match fn with
    | .yield n => .func (.yield n) f (renTok m n c)
    | fn => .func fn (renVA m f) (renVA m c)
  | .iface t v => .iface t (renV m v)
  | .agg cs => .agg (renVA m cs)
  | .tuple vs => .tuple (renVA m vs)
  | v => v
def renVA (m : Nm) : Array Value → Array Value
  | ⟨l⟩ => ⟨renVL m l⟩
def renVL (m : Nm) : List Value → List Value
  | [] => []
  | v :: r => renV m v :: renVL m r
def renTok (m : Nm) (n : Nat) : Array Value → Array Value
  | ⟨.map (some t) :: r⟩ => ⟨.map (some (m t n).1) :: r⟩
  | c => c
end

def renM (m : Nm) : List (Value × Value) → List (Value × Value)
  | [] => []
  | e :: r => (e.1, renV m e.2) :: renM m r

/-- A block, its values turned; its versions: the last one alone, if cmp. -/
def renB (m : Nm) (cmp : Bool) : Option ABlk → Option ABlk
  | some (.cells b) => bif cmp then some (.cells { b with cells := (bif b.pf then b.cells else renVL m b.cells), lens := [b.lenAt b.top], wver := 0 })
      else some (.cells { b with cells := (bif b.pf then b.cells else renVL m b.cells) })
  | some (.map es) => some (.map (renM m es))
  | some (.tok m e z) => some (.tok m e z)
  | none => none

def addO (H : AH) : Option ABlk → AH
  | some b => H.push b
  | none => AH.rec (fun n t => forceN n fun n => ⟨Nat.succ n, t⟩) H

/-- The heap of a row of blocks. -/
def heapOf (l : List (Option ABlk)) (H : AH) : AH := List.rec (fun H => H) (fun b _ ih H => ih (addO H b)) l H

def noDup : List Nat → Bool
  | [] => true
  | a :: r => !(memN a r) && noDup r

/-- May a block's older versions be let go? Then all that is met is of the last one. -/
def cmpOk (H : AH) (rs : List (Nat × Nat)) (p : Nat) (ix id : Nat) : Bool :=
  Nat.ble p ix && (isOpen (H.get id) && rs.all fun r => bif Nat.beq r.1 id then Nat.beq r.2 (topOf (H.get id)) else true)

def blocksRefs (H : AH) : List Nat → List (Nat × Nat)
  | [] => []
  | id :: r => refsB (H.get id) ++ blocksRefs H r

def blocksToks (H : AH) : List Nat → List Nat
  | [] => []
  | id :: r => toksB (H.get id) ++ blocksToks H r

def cmpsOf (H : AH) (rs : List (Nat × Nat)) (p : Nat) : List Nat → Nat → List (Nat × Bool)
  | [], _ => []
  | id :: r, ix => (id, cmpOk H rs p ix id) :: cmpsOf H rs p r (ix + 1)

def cmpAt (n : Nat) : List (Nat × Bool) → Bool
  | [] => false
  | a :: r => bif Nat.beq a.1 n then a.2 else cmpAt n r

def nmOf (L : List Nat) (cs : List (Nat × Bool)) : Nm := fun id ver => (idxOf id L 0, bif cmpAt id cs then 0 else ver)

def renBs (H : AH) (m : Nm) : List (Nat × Bool) → List (Option ABlk)
  | [] => []
  | c :: r => renB m c.2 (H.get c.1) :: renBs H m r

def AH0 : AH := ⟨0, .leaf⟩

def toksOk (cs : List (Nat × Bool)) (ts : List Nat) : Bool := ts.all fun t => !cmpAt t cs

/-- Is all that is met in the row? -/
def refsOk (L : List Nat) (rs : List (Nat × Nat)) : Bool := rs.all fun r => memN r.1 L

def hasAll (H : AH) : List Nat → Bool
  | [] => true
  | id :: r => (H.get id).isSome && hasAll H r

/-- The first p stand in their places. -/
def pins (p : Nat) : List Nat → Nat → Bool
  | [], i => Nat.ble p i
  | a :: r, i => bif Nat.blt i p then Nat.beq a i && pins p r (i + 1) else true

structure Nrm where
  L : List Nat
  m : Nm
  H : AH

def normK (H : AH) (p : Nat) (vs : List Value) : Option (List Nat) → Option Nrm
  | some L => bif noDup L && (pins p L 0 && hasAll H L && (refsOk L (refsL vs ++ blocksRefs H L) && (okKey L.length && toksOk (cmpsOf H (refsL vs ++ blocksRefs H L) p L 0) (toksL vs ++ blocksToks H L)))) then
      some ⟨L, nmOf L (cmpsOf H (refsL vs ++ blocksRefs H L) p L 0), heapOf (renBs H (nmOf L (cmpsOf H (refsL vs ++ blocksRefs H L) p L 0)) (cmpsOf H (refsL vs ++ blocksRefs H L) p L 0)) AH0⟩
    else none
  | none => none

def upto (n : Nat) : List Nat := Nat.rec [] (fun k ih => ih ++ [k]) n

/-- The heap of what is met from these values, and from the first p blocks. -/
def normA (H : AH) (p : Nat) (vs : List Value) : Option Nrm := normK H p vs (clo H 100000 [] (upto p ++ (refsL vs).map (·.1)))

end
end Go.Den
