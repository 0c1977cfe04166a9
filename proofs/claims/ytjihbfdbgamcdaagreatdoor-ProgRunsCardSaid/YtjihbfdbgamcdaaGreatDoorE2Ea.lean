/-
  THE ENGINE, part Ea: calls, loops, texts, functions.
-/
import Derived.Test.YtjihbfdbgamcdaaGreatDoorE2E
namespace Go.Den
noncomputable section

/-- How the engine goes: what is known already of functions whose arguments and results are frozen; per function: are a call's arguments, its results left as they are; are rows that grow frozen ones; per loop: which temporaries live in it, which behind it, how many blocks are met there; what package-level variables hold. -/
structure Cfg where
  raw : FuncId → Bool × Bool
  own : FuncId → Bool
  live : FuncId → Nat → Option (List Tmp × List Tmp × Nat)
  glob : Nat → Option (List Value)
  know : FuncId → Option (List Value → Option Value)

inductive Task where
  | call (f : FuncId) (args : List Value)
  | loop (f : FuncId) (p : Nat) (c : Code) (e : Env)

inductive Out where
  | code (x : AExit) (e : Env)
  | val (v : Value)

abbrev Rec := Task → AH → Option (Out × AH)

/- EQUAL BLOCKS -/

mutual
def beqV : Value → Value → Bool
  | .bool a, .bool b => a == b
  | .int k a, .int j b => sameKind k j && eqF a b
  | .float k a, .float j b => k == j && Nat.beq a b
  | .complex k a c, .complex j b d => k == j && (Nat.beq a b && Nat.beq c d)
  | .string a, .string b => a.data.toList == b.data.toList
  | .pointer none, .pointer none => true
  | .pointer (some a), .pointer (some b) => Nat.beq a.block b.block && (Nat.beq a.off b.off && a.spot == b.spot)
  | .slice none l c, .slice none m d => Nat.beq l m && Nat.beq c d
  | .slice (some a) l c, .slice (some b) m d => Nat.beq a.block b.block && (Nat.beq a.off b.off && (a.spot == b.spot && (Nat.beq l m && Nat.beq c d)))
  | .map a, .map b => a == b
  | .nilFunc, .nilFunc => true
  | .nilIface, .nilIface => true
  | .func f a c, .func g b d => f == g && (beqA a b && beqA c d)
  | .iface t a, .iface u b => Nat.beq t u && beqV a b
  | .agg a, .agg b => beqA a b
  | .tuple a, .tuple b => beqA a b
  | _, _ => false
def beqA : Array Value → Array Value → Bool
  | ⟨a⟩, ⟨b⟩ => beqL a b
def beqL : List Value → List Value → Bool
  | [], [] => true
  | a :: r, b :: s => beqV a b && beqL r s
  | _, _ => false
end

def beqP : List (Value × Value) → List (Value × Value) → Bool
  | [], [] => true
  | a :: r, b :: s => beqV a.1 b.1 && (beqV a.2 b.2 && beqP r s)
  | _, _ => false

def beqC (a b : CBlk) : Bool := beqL a.cells b.cells && (Nat.beq a.elem b.elem && (Nat.beq a.esz b.esz && (a.lens == b.lens && (Nat.beq a.wver b.wver && (Nat.beq a.frz b.frz && (a.mark == b.mark && a.pf == b.pf))))))

def beqB : ABlk → ABlk → Bool
  | .cells a, .cells b => beqC a b
  | .map a, .map b => beqP a b
  | .tok a b c, .tok d e f => Nat.beq a d && (Nat.beq b e && Nat.beq c f)
  | _, _ => false

def beqBO : Option ABlk → Option ABlk → Bool
  | some a, some b => beqB a b
  | _, _ => false

/-- Which of the caller's blocks a call left otherwise than they were. -/
def changed (H1 H3 : AH) (L : List Nat) : List Nat := L.filter fun id => !beqBO (H1.get id) (H3.get id)

/- CALLS -/

def getN : List Nat → Nat → Nat
  | [], _ => 0
  | a :: r, k => Nat.rec a (fun j _ => getN r j) k

def topsOf (H : AH) : List (Nat × Bool) → List Nat
  | [] => []
  | c :: r => (bif c.2 then topOf (H.get c.1) else 0) :: topsOf H r

/-- The way back: from a call's numbers to its caller's. -/
def backNm (n k : Nat) (L tops : List Nat) : Nm := fun ix s => bif Nat.blt ix k then (getN L ix, bif Nat.beq (getN tops ix) 0 then s else Nat.add (getN tops ix) s) else (Nat.add n (Nat.sub ix k), s)

def zeros (n : Nat) : List Nat := Nat.rec [] (fun _ ih => 0 :: ih) n

def frzOf : Option ABlk → Nat
  | some (.cells b) => b.frz
  | _ => 0

/-- A block on its way back; t0, f0: the caller's last version of it, how far it was frozen. -/
def backB (m : Nm) (cmp : Bool) (t0 f0 : Nat) : Option ABlk → Option ABlk
  | some (.cells b) => bif cmp then some (.cells { b with cells := (bif b.pf then b.cells else renVL m b.cells), lens := b.lens ++ zeros t0, wver := Nat.add t0 b.wver, frz := Nat.max f0 b.frz })
      else some (.cells { b with cells := (bif b.pf then b.cells else renVL m b.cells) })
  | some (.map es) => some (.map (renM m es))
  | some (.tok m e z) => some (.tok m e z)
  | none => none

def setO (H : AH) (id : Nat) : Option ABlk → AH
  | some b => H.set id b
  | none => H

/-- What a call left of its caller's blocks. -/
def backs (m : Nm) (H1 Hc : AH) : List (Nat × Bool) → Nat → AH → AH
  | [], _, H => H
  | c :: r, ix, H => backs m H1 Hc r (ix + 1) (setO H c.1 (backB m c.2 (topOf (H1.get c.1)) (frzOf (H1.get c.1)) (Hc.get ix)))

/-- What a call made. -/
def news (m : Nm) (Hc : AH) (k d : Nat) (H : AH) : AH := Nat.rec (fun _ H => H) (fun _ ih k H => ih (Nat.succ k) (addO H (backB m false 0 0 (Hc.get k)))) d k H

def isNil : List Nat → Bool
  | [] => true
  | _ => false

def frIds (l : Frs) : List Nat := l.map (·.1)

def keysOk (L : List Nat) : Bool := L.all okKey

def backsOk (Hc : AH) : List (Nat × Bool) → Nat → Bool
  | [], _ => true
  | c :: r, ix => (bif c.2 then isOpen (Hc.get ix) else true) && backsOk Hc r (ix + 1)

def newToks (Hc : AH) (d : Nat) : Nat → List Nat := Nat.rec (fun _ => []) (fun _ ih k => toksB (Hc.get k) ++ ih (Nat.succ k)) d

def topsOk (k : Nat) (tops ts : List Nat) : Bool := ts.all fun t => bif Nat.blt t k then Nat.beq (getN tops t) 0 else true

def mergeA (H1 : AH) (fr : Frs) (L : List Nat) (cs : List (Nat × Bool)) (v : Value) (Hc : AH) : Did :=
  bif keysOk L && (Nat.ble L.length Hc.n && (okKey (H1.n + Hc.n) && (topsOk L.length (topsOf H1 cs) (toks v ++ newToks Hc Hc.n 0) && (backsOk Hc cs 0 && hasAll Hc (upto L.length))))) then
    .did (renV (backNm H1.n L.length L (topsOf H1 cs)) v) none true
      (news (backNm H1.n L.length L (topsOf H1 cs)) Hc L.length (Hc.n - L.length) (backs (backNm H1.n L.length L (topsOf H1 cs)) H1 Hc cs 0 H1))
      (changed H1 (news (backNm H1.n L.length L (topsOf H1 cs)) Hc L.length (Hc.n - L.length) (backs (backNm H1.n L.length L (topsOf H1 cs)) H1 Hc cs 0 H1)) L ++ frIds fr)
  else .none

def callS3 (H H1 : AH) (fr : Frs) (L : List Nat) (cs : List (Nat × Bool)) : Option (Out × AH) → Did
  | some (.val v, Hc) => bif isNil L && flat v then .did v none true H [] else mergeA H1 fr L cs v Hc
  | _ => .none

def callS2 (rec : Rec) (f : FuncId) (H H1 : AH) (fr : Frs) (a : List Value) : Option Nrm → Did
  | some N => callS3 H H1 fr N.L (cmpsOf H1 (refsL a ++ blocksRefs H1 N.L) 0 N.L 0) (rec (.call f (renVL N.m a)) N.H)
  | none => .none

def callS1 (rec : Rec) (f : FuncId) (H : AH) : Option (List Value × Frs) → Did
  | some (a, fr) => callS2 rec f H (raise H fr) fr a (normA (raise H fr) 0 a)
  | none => .none

/-- What is known of a function answers; else it is run. -/
def callG (rec : Rec) (f : FuncId) (H : AH) (a : List Value) (fr : Frs) : Option Value → Did
  | some v => .did v none true (raise H fr) (frIds fr)
  | none => callS1 rec f H (some (a, fr))

def callK (rec : Rec) (f : FuncId) (H : AH) (s : Option (List Value × Frs)) : Option (List Value → Option Value) → Did
  | none => callS1 rec f H s
  | some g => match s with
    | some (a, fr) => callG rec f H a fr (g a)
    | none => .none

/-- A call, as its caller sees it. -/
def callS (P : Program) (cfg : Cfg) (rec : Rec) : Calls0 := fun f args H =>
  callK rec f H (bif (cfg.raw f).1 then some (args, []) else sealL P H 20 args) (cfg.know f)

/- LOOPS -/

def evs (e : Env) : List Tmp → List Value
  | [] => []
  | t :: r => e.get t :: evs e r

def putL (lv : List Tmp) (vs : List Value) (t : T Value) : T Value := match lv, vs with
  | k :: r, v :: s => putL r s (T.put v 40 t k)
  | _, _ => t

/-- Nobody asks for the others. -/
def junkL : Nat → T Value → T Value := fun n => Nat.rec (fun t => t) (fun k ih t => ih (T.put JK 40 t k)) n

def envL (n : Nat) (g : (Nat → Option (List Value)) × Bool) (lv : List Tmp) (vs : List Value) : Env := ⟨n, putL lv vs (junkL n .leaf), g⟩

def getsA (H : AH) (k d : Nat) : List (Option ABlk) := Nat.rec (fun _ => []) (fun _ ih k => H.get k :: ih (Nat.succ k)) d k

abbrev KC (R : Type) := AExit → Env → AH → Option R

def lvOk (n : Nat) (l : List Tmp) : Bool := l.all fun t => Nat.blt t n

/-- Behind a loop. (k = 999999: the heap is taken as it is.) -/
def loopK {R : Type} (n : Nat) (g : (Nat → Option (List Value)) × Bool) (outs : List Tmp) (k : Nat) (K : KC R) : Option (Out × AH) → Option R
  | some (.code x e, H) => bif Nat.beq k 999999 then K x (envL n g outs (evs e outs)) H else (bif Nat.beq H.n k && okKey k then K x (envL n g outs (evs e outs)) (heapOf (getsA H 0 k) AH0) else none)
  | _ => none

def loopK0 {R : Type} (K : KC R) : Option (Out × AH) → Option R
  | some (.code x e, H) => K x e H
  | _ => none

def loopN {R : Type} (rec : Rec) (f : FuncId) (p : Nat) (c : Code) (n : Nat) (g : (Nat → Option (List Value)) × Bool) (ins outs : List Tmp) (k : Nat) (vs : List Value) (K : KC R) : Option Nrm → Option R
  | some N => loopK n g outs k K (rec (.loop f p c (envL n g ins (renVL N.m vs))) N.H)
  | none => none

def loopA {R : Type} (rec : Rec) (f : FuncId) (p : Nat) (c : Code) (e : Env) (H : AH) (K : KC R) : Option (List Tmp × List Tmp × Nat) → Option R
  | some (ins, outs, k) => bif lvOk e.n ins && lvOk e.n outs then loopN rec f p c e.n e.g ins outs k (evs e ins) K (normA H p (evs e ins)) else none
  | none => loopK0 K (rec (.loop f p c e) H)

/-- The number of a text's first region. -/
def firstId : Code → Nat
  | .region id _ _ => id
  | .seq a _ => firstId a
  | .block _ c => firstId c
  | .loop c => firstId c
  | _ => 0

/- TEXTS -/

def condV {R : Type} (v : Value) (a b : Option R) : Option R := match v with
  | .bool true => a
  | .bool false => b
  | _ => none

def seqK {R : Type} (K1 : KR R) (K : KC R) : KC R := fun x e H => match x with
  | .normal => K1 e H
  | x => K x e H

def blockK {R : Type} (id : Nat) (K : KC R) : KC R := fun x e H => match x with
  | .exit j => bif Nat.beq j id then K .normal e H else K (.exit j) e H
  | x => K x e H

def codeA {R : Type} (P : Program) (cfg : Cfg) (f : FuncId) (p : Nat) (rec : Rec) (c : Code) : KC R → KR R :=
  match c with
  | .skip => fun K e H => K .normal e H
  | .label _ => fun K e H => K .normal e H
  | .ret => fun K e H => K .ret e H
  | .exit id => fun K e H => K (.exit id) e H
  | .goto l => fun K e H => K (.goto l) e H
  | .region _ ops draw => fun K e H => bif draw then drawA P (callS P cfg rec) ops (K .normal) e H else opsA P (callS P cfg rec) (K .normal) (compOps P ops ops.toList) e H
  | .seq a b => fun K e H => codeA P cfg f p rec a (seqK (codeA P cfg f p rec b K) K) e H
  | .cond c a b => fun K e H => bif okOpd c then condV (evl e c) (codeA P cfg f p rec a K e H) (codeA P cfg f p rec b K e H) else none
  | .block id c => fun K e H => codeA P cfg f p rec c (blockK id K) e H
  | .loop c => fun K e H => loopA rec f p c e H K (cfg.live f (firstId c))
  | _ => fun _ _ _ => none

/- FUNCTIONS -/

def outK : Option Nrm → Value → Option (Out × AH)
  | some N, v => some (.val (renV N.m v), N.H)
  | none, _ => none

def valK2 (p : Nat) (H : AH) : Option (List Value × Frs) → Option (Out × AH)
  | some ([v], fr) => outK (normA (raise H fr) p [v]) v
  | _ => none

def valK (P : Program) (raw : Bool) (p : Nat) (H : AH) : Option (List Value) → Option (Out × AH)
  | some l => valK2 p H (bif raw then some ([oneOrTuple l], []) else sealL P H 20 [oneOrTuple l])
  | none => none

def isEnd : AExit → Bool
  | .normal | .ret => true
  | _ => false

def retK (P : Program) (raw : Bool) (p : Nat) (rs : List ResultVar) : KC (Out × AH) := fun x e H => bif isEnd x then valK P raw p H (resultsA P H e rs) else none

def callF (P : Program) (cfg : Cfg) (rec : Rec) (f : FuncId) (args : List Value) (H : AH) : Option Func → Option (Out × AH)
  | some fn => match fn.body with
    | some c => bif Nat.ble args.length fn.ntmps && okKey fn.ntmps then
        codeA P cfg f H.n rec c (retK P (cfg.raw f).2 H.n fn.results.toList) { n := fn.ntmps, t := envOf args 0 .leaf, g := (cfg.glob, cfg.own f) } H else none
    | none => none
  | none => none

/-- One round of a loop, or its end. -/
def loopEnd (ins outs : List Tmp) (n : Nat) (g : (Nat → Option (List Value)) × Bool) (rec : Rec) (f : FuncId) (p : Nat) (c : Code) (x : AExit) (e : Env) (H : AH) : Option (Out × AH) := match x with
  | .normal => (match normA H p (evs e ins) with
    | some N => rec (.loop f p c (envL n g ins (renVL N.m (evs e ins)))) N.H
    | none => none)
  | x => (match normA H p (evs e outs) with
    | some N => some (.code x (envL n g outs (renVL N.m (evs e outs))), N.H)
    | none => none)

def roundK (rec : Rec) (f : FuncId) (p : Nat) (c : Code) : Option (List Tmp × List Tmp × Nat) → KC (Out × AH)
  | some (ins, outs, _), x, e, H => bif lvOk e.n ins && lvOk e.n outs then loopEnd ins outs e.n e.g rec f p c x e H else none
  | none, .normal, e, H => rec (.loop f p c e) H
  | none, x, e, H => some (.code x e, H)

def denStep (P : Program) (cfg : Cfg) (rec : Rec) (task : Task) (H : AH) : Option (Out × AH) :=
  match task with
  | .call f args => callF P cfg rec f args H P.funcs[f]?
  | .loop f p c e => codeA P cfg f p rec c (roundK rec f p c (cfg.live f (firstId c))) e H

def den (P : Program) (cfg : Cfg) (n : Nat) : Task → AH → Option (Out × AH) := Nat.rec (fun _ _ => none) (fun _ ih => denStep P cfg ih) n

end
end Go.Den
