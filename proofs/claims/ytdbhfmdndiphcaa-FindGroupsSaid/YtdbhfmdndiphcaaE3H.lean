/-
  THE ENGINE FOR UNKNOWN VALUES, part H: calls with rows that the caller has laid; regions of open order.
-/
import Derived.Test.YtdbhfmdndiphcaaE3G
namespace Go.Den
noncomputable section

variable {P : Program} {cfg : Cfg} {R : Type}

/- ROWS AS ARGUMENTS -/

/-- The size of a type. -/
def tsz (P : Program) (t : TypeId) : Nat := match tyInfo P t with | some i => i.size | none => 0

/-- Arguments, and what they are when they are frozen; which rows that freezes, as far as this. -/
inductive SlA (P : Program) (h : List ABlk) : List Value → List Value → Frs → Prop
  | nil : SlA P h [] [] []
  | cons {v v' : Value} {l l' : List Value} {fr : Frs} (hv : Sl 17 v v') (t : SlA P h l l' fr) : SlA P h (v :: l) (v' :: l') fr
  | row {i n c size : Nat} {cs : List Value} {elem : TypeId} {frz : Nat} {l l' : List Value} {fr : Frs} (hb : h[i]? = some (X cs elem frz true)) (hs : tsz P elem = size) (h0 : 0 < size) (hn : n + 1 ≤ c) (hl : (n + 1) * size ≤ cs.length) (hr : noRefsL (slotsOf cs 0 ((n + 1) * size)) = true) (t : SlA P h l l' fr) :
      SlA P h (.slice (some ⟨i, 0, none⟩) (n + 1) (c + 1) :: l) (FL (n + 1) (slotsOf cs 0 ((n + 1) * size)) :: l') ((i, (n + 1) * size) :: fr)

theorem lt_of_get {h : List ABlk} {i : Nat} {b : ABlk} (e : h[i]? = some b) : i < h.length := by
  rcases Nat.lt_or_ge i h.length with h1 | h1
  · exact h1
  · rw [List.getElem?_eq_none h1] at e; cases e

theorem seal_rowX {h : List ABlk} (hb' : h.length ≤ 1099511627774) {i n c size : Nat} {cs : List Value} {elem : TypeId} {frz : Nat} (hb : h[i]? = some (X cs elem frz true)) (hs : tsz P elem = size) (h0 : 0 < size) (hn : n + 1 ≤ c) (hl : (n + 1) * size ≤ cs.length) (hr : noRefsL (slotsOf cs 0 ((n + 1) * size)) = true)
    (sl : List Value → Option (List Value × Frs)) : sealV1 P (HP h) sl (.slice (some ⟨i, 0, none⟩) (n + 1) (c + 1)) = some (FL (n + 1) (slotsOf cs 0 ((n + 1) * size)), [(i, (n + 1) * size)]) := by
  show sealRow P (HP h) sl ⟨i, 0, none⟩ (n + 1) (c + 1) = _
  unfold sealRow
  rw [HP_get h hb', hb]
  have he : elemSize P { cells := cs, elem := elem, esz := 1, lens := [], wver := 0, frz := frz, mark := false, pf := true } = size := hs
  simp only [he]
  have h1 : capOk (HP h) size (n + 1) ⟨i, 0, none⟩ (c + 1) = true := by
    show (Nat.ble (n + 1) c && Nat.blt 0 size) = true
    rw [Nat.ble_eq_true_of_le hn, nblt, decide_eq_true h0]; rfl
  have h2 : rdOk { cells := cs, elem := elem, esz := 1, lens := [], wver := 0, frz := frz, mark := false, pf := true } (aver ⟨i, 0, none⟩) (0 + (n + 1) * size) = true := by
    show (Nat.ble 0 0 && (Nat.ble 0 0 && Nat.ble (0 + (n + 1) * size) cs.length)) = true
    rw [Nat.zero_add, Nat.ble_eq_true_of_le hl]; rfl
  rw [h1, h2]
  simp only [Bool.and_self, cond_true, hr, show okKey i = true from okKey_le (by have := lt_of_get hb; omega), Nat.zero_add]

theorem SlA.sl {h : List ABlk} (hb : h.length ≤ 1099511627774) {a a' : List Value} {fr : Frs} (hs : SlA P h a a' fr) : sealL P (HP h) 20 a = some (a', fr) ∧ refsL a' = [] ∧ ∀ m, renVL m a' = a' := by
  induction hs with
  | nil => exact ⟨rfl, rfl, fun _ => rfl⟩
  | cons hv _ ih =>
    obtain ⟨h1, h2, h3⟩ := ih
    refine ⟨?_, by simp [refsL, hv.fz.refs, h2], fun m => by simp [renVL, hv.fz.ren m, h3 m]⟩
    rw [sealL_cons P (HP h) 19, hv.sl P (HP h) 19 (by omega), h1]
    rfl
  | row hb1 hs h0 hn hl hr _ ih =>
    obtain ⟨h1, h2, h3⟩ := ih
    refine ⟨?_, by show _ ++ refsL _ = _; rw [h2]; rfl, fun m => by show _ :: renVL m _ = _; rw [h3 m]; rfl⟩
    rw [sealL_cons P (HP h) 19, seal_rowX hb hb1 hs h0 hn hl hr, h1]
    rfl

/-- A row, frozen as far as this. -/
def frzAtB (n : Nat) : ABlk → ABlk
  | .cells b => .cells { b with frz := Nat.max b.frz n }
  | b => b

def frzHP (h : List ABlk) : Frs → List ABlk
  | [] => h
  | (i, n) :: r => (match (frzHP h r)[i]? with
    | some b => (frzHP h r).set i (frzAtB n b)
    | none => frzHP h r)

theorem frzHP_length (h : List ABlk) (fr : Frs) : (frzHP h fr).length = h.length := by
  induction fr with
  | nil => rfl
  | cons p r ih =>
    obtain ⟨i, n⟩ := p
    simp only [frzHP]
    split
    · rw [List.length_set, ih]
    · exact ih

theorem raise_HP {h : List ABlk} (hb : h.length ≤ 1099511627774) (fr : Frs) : raise (HP h) fr = HP (frzHP h fr) := by
  induction fr with
  | nil => rfl
  | cons p r ih =>
    obtain ⟨i, n⟩ := p
    show frz1 (raise (HP h) r) i n (frzBlk n ((raise (HP h) r).get i)) = _
    rw [ih, HP_get _ (by rw [frzHP_length]; exact hb)]
    simp only [frzHP]
    cases hq : (frzHP h r)[i]? with
    | none => rfl
    | some b =>
      simp only
      have hi := lt_of_get hq
      cases b with
      | cells c => show (HP (frzHP h r)).set i (.cells _) = _; rw [HP_set _ _ _ hi]; rfl
      | map es => show (HP (frzHP h r)).set i (.map es) = _; rw [HP_set _ _ _ hi]; rfl
      | tok a b c => show (HP (frzHP h r)).set i (.tok a b c) = _; rw [HP_set _ _ _ hi]; rfl

/-- The heap behind a call. -/
def behind (h : List ABlk) (fr : Frs) (v : Value) : List ABlk := bif flat v then h else frzHP h fr
def behindW (fr : Frs) (v : Value) : List Nat := bif flat v then [] else frIds fr

theorem callS_rows {rec : Rec} {f : FuncId} {h : List ABlk} {args a : List Value} {fr : Frs} {v : Value} (hc : Plain cfg) (hk : cfg.know f = none) (hs : SlA P h args a fr)
    (hrec : rec (.call f a) AH0 = some (.val v, AH0)) (hf : Fzn v) (hkey : h.length ≤ 1099511627774) : callS P cfg rec f args (HP h) = .did v none true (HP (behind h fr v)) (behindW fr v) := by
  obtain ⟨h1, h2, h3⟩ := hs.sl hkey
  rw [callS_none (by rw [hc.raw]) hk h1 h2 h3 hrec hf (by rw [HP_n]; exact hkey) (by rw [raise_HP hkey, HP_n, HP_n, frzHP_length]), raise_HP hkey]
  unfold behind behindW
  cases flat v <;> rfl

/- REGIONS OF OPEN ORDER -/

section
variable {cs : Calls0} {K : KR R} {d : Option Tmp} {l : List RO} {e : Env} {H : AH} {b : Array Nat} {k : Nat} {acc : List Ti}

def opsDI (P : Program) (cs : Calls0) (b : Array Nat) (K : KR R) (d : Option Tmp) (ri : RI) (l : List RO) (k : Nat) (acc : List Ti) (e : Env) (H : AH) (wr : List Nat) (r : ARes) : Option R := opsKR (didRes cs wr H r) ⟨d, none, ri⟩ k acc e H (opsDR P cs b K l)

theorem opsD_ins {i : Ins} : opsDR P cs b K (⟨d, none, .ins i⟩ :: l) k acc e H = opsDI P cs b K d (.ins i) l k acc e H (effWr e i) (insA P e H H.n i) := rfl
theorem opsD_int2 {op : BinOp} {j : IntKind} {x y : Operand} : opsDR P cs b K (⟨d, none, .int2 op j x y⟩ :: l) k acc e H = opsDI P cs b K d (.int2 op j x y) l k acc e H [] (int2V op j (evl e x) (evl e y)) := rfl
theorem opsD_conv {j : IntKind} {x : Operand} : opsDR P cs b K (⟨d, none, .conv j x⟩ :: l) k acc e H = opsDI P cs b K d (.conv j x) l k acc e H [] (convV j (evl e x)) := rfl
theorem opsD_un {op : UnOp} {x : Operand} : opsDR P cs b K (⟨d, none, .un op x⟩ :: l) k acc e H = opsDI P cs b K d (.un op x) l k acc e H [] (unV op (evl e x)) := rfl
theorem opsD_str2 {op : BinOp} {x y : Operand} : opsDR P cs b K (⟨d, none, .str2 op x y⟩ :: l) k acc e H = opsDI P cs b K d (.str2 op x y) l k acc e H [] (str2V op (evl e x) (evl e y)) := rfl
theorem opsD_sidx {x y : Operand} : opsDR P cs b K (⟨d, none, .sidx x y⟩ :: l) k acc e H = opsDI P cs b K d (.sidx x y) l k acc e H [] (sidxV (evl e x) (evl e y)) := rfl
theorem opsD_slen {x : Operand} : opsDR P cs b K (⟨d, none, .slen x⟩ :: l) k acc e H = opsDI P cs b K d (.slen x) l k acc e H [] (slenV (evl e x)) := rfl
theorem opsD_ssl {x : Operand} {lo hi : Option Operand} : opsDR P cs b K (⟨d, none, .ssl x lo hi⟩ :: l) k acc e H = opsDI P cs b K d (.ssl x lo hi) l k acc e H [] (sslV (evl e x) (lo.map (evl e)) (hi.map (evl e))) := rfl
theorem opsD_lenS {x : Operand} : opsDR P cs b K (⟨d, none, .lenS x⟩ :: l) k acc e H = opsDI P cs b K d (.lenS x) l k acc e H [] (lenSV (evl e x)) := rfl
theorem opsD_slS {size : Nat} {x : Operand} {lo hi mx : Option Operand} : opsDR P cs b K (⟨d, none, .slS size x lo hi mx⟩ :: l) k acc e H = opsDI P cs b K d (.slS size x lo hi mx) l k acc e H [] (slSR e H size (evl e x) lo hi mx) := rfl
theorem opsD_eqc {neg : Bool} {ks : List AK} {x y : Operand} : opsDR P cs b K (⟨d, none, .eqc neg ks x y⟩ :: l) k acc e H = opsDI P cs b K d (.eqc neg ks x y) l k acc e H [] (eqcV neg ks (evl e x) (evl e y)) := rfl
theorem opsD_nil : opsDR P cs b K [] k acc e H = drawEndR b acc K e H := rfl

theorem opsDI_val {ri : RI} {wr : List Nat} {v : Value} : opsDI P cs b K d ri l k acc e H wr (val v) = opsDR P cs b K l (k + 1) (⟨k, looksR e ri, none⟩ :: acc) (e.put d v) H := rfl
theorem opsDI_valO {ri : RI} {wr : List Nat} {v : Value} : opsDI P cs b K d ri l k acc e H wr (valO (some v)) = opsDR P cs b K l (k + 1) (⟨k, looksR e ri, none⟩ :: acc) (e.put d v) H := rfl
theorem opsDI_new {ri : RI} {wr : List Nat} {v : Value} {h : List ABlk} {x : ABlk} (hl : h.length ≤ 1099511627774) : opsDI P cs b K d ri l k acc e (HP h) wr (.simple v (some x)) = opsDR P cs b K l (k + 1) (⟨k, h.length :: looksR e ri, none⟩ :: acc) (e.put d v) (HP (h ++ [x])) := by
  show opsKR (bif okKey (HP h).n then Did.did v (some x) false ((HP h).push x) [] else Did.none) _ k acc e (HP h) (opsDR P cs b K l) = _
  rw [HP_n, okKey_le hl, HP_push]
  show opsDR P cs b K l (k + 1) (⟨k, (HP h).n :: looksR e ri, none⟩ :: acc) _ _ = _
  rw [HP_n]
theorem opsDI_eff {ri : RI} {wr : List Nat} {v : Value} {h h' : List ABlk} (hl : h.length ≤ h'.length) : opsDI P cs b K d ri l k acc e (HP h) wr (.eff v (HP h')) = opsDR P cs b K l (k + 1) (⟨k, [], some (wr, h.length, h'.length)⟩ :: acc) (e.put d v) (HP h') := by
  show opsKR (bif Nat.ble (HP h).n (HP h').n then Did.did v .none true (HP h') wr else Did.none) _ k acc e (HP h) (opsDR P cs b K l) = _
  rw [HP_n, HP_n, Nat.ble_eq_true_of_le hl]
  show opsDR P cs b K l (k + 1) (⟨k, [], some (wr, (HP h).n, (HP h').n)⟩ :: acc) _ _ = _
  rw [HP_n, HP_n]

/-- At a call within a region of open order. -/
def opsDC (P : Program) (cs : Calls0) (b : Array Nat) (K : KR R) (d : Option Tmp) (ri : RI) (l : List RO) (k : Nat) (acc : List Ti) (e : Env) (H : AH) (x : Did) : Option R := opsKR x ⟨d, none, ri⟩ k acc e H (opsDR P cs b K l)
theorem opsDI_call {ri : RI} {wr : List Nat} {f : FuncId} {args : List Value} : opsDI P cs b K d ri l k acc e H wr (.call f args) = opsDC P cs b K d ri l k acc e H (cs f args H) := rfl

theorem draw_end (h : (chainTi b acc.reverse && sepAll b acc) = true) : drawEndR b acc K e H = K e H := by
  unfold drawEndR
  rw [h]
  rfl
end

/- LISTS -/

theorem set_last {α : Type} (l : List α) (a b : α) : (l ++ [a]).set l.length b = l ++ [b] := by
  rw [List.set_append_right _ _ (Nat.le_refl _)]
  simp
theorem get_last {α : Type} (l : List α) (a : α) : (l ++ [a])[l.length]? = some a := by simp

theorem get_app {α : Type} (ex l : List α) (k : Nat) : (ex ++ l)[ex.length + k]? = l[k]? := by
  rw [List.getElem?_append_right (by omega)]
  congr 1; omega
theorem get_app0 {α : Type} (ex l : List α) : (ex ++ l)[ex.length]? = l[0]? := get_app ex l 0
theorem set_app {α : Type} (ex l : List α) (k : Nat) (b : α) : (ex ++ l).set (ex.length + k) b = ex ++ l.set k b := by
  rw [List.set_append_right _ _ (by omega)]
  congr 2; omega
theorem set_app0 {α : Type} (ex l : List α) (b : α) : (ex ++ l).set ex.length b = ex ++ l.set 0 b := set_app ex l 0 b

/- GUARDS IN REGIONS OF OPEN ORDER -/

section
variable {cs : Calls0} {K : KR R} {d : Option Tmp} {l : List RO} {e : Env} {H : AH} {b : Array Nat} {k : Nat} {acc : List Ti}

def opsDG (P : Program) (cs : Calls0) (b : Array Nat) (K : KR R) (d : Option Tmp) (ri : RI) (l : List RO) (k : Nat) (acc : List Ti) (e : Env) (H : AH) (gs : Option Bool) : Option R := match didG gs (stepR P cs e H ri) H with
  | .did v nb eff H' wr => opsDR P cs b K l (k + 1) (tiR gs k ri e H nb eff H' wr acc) (e.put d v) H'
  | .none => none
theorem opsD_guard {g : Tmp} {want : Bool} {ri : RI} : opsDR P cs b K (⟨d, some (some g, want), ri⟩ :: l) k acc e H = opsDG P cs b K d ri l k acc e H (gselV want (e.get g)) := by
  show opsKR (didG (gselV want (e.get g)) (stepR P cs e H ri) H) _ k acc e H (opsDR P cs b K l) = _
  unfold opsDG
  cases didG (gselV want (e.get g)) (stepR P cs e H ri) H <;> rfl
theorem opsDG_do {ri : RI} : opsDG P cs b K d ri l k acc e H (some true) = opsDR P cs b K (⟨d, none, ri⟩ :: l) k acc e H := by
  show _ = opsKR (didG (some true) (stepR P cs e H ri) H) ⟨d, none, ri⟩ k acc e H (opsDR P cs b K l)
  unfold opsDG
  cases didG (some true) (stepR P cs e H ri) H <;> rfl
theorem opsDG_skip {ri : RI} : opsDG P cs b K d ri l k acc e H (some false) = opsDR P cs b K l (k + 1) acc (e.put d undef) H := rfl
theorem gselV_tt : gselV true (.bool true) = some true := rfl
theorem gselV_tf : gselV true (.bool false) = some false := rfl
theorem gselV_ft : gselV false (.bool true) = some false := rfl
theorem gselV_ff : gselV false (.bool false) = some true := rfl
theorem opsD_eqb {neg : Bool} {x y : Operand} : opsDR P cs b K (⟨d, none, .eqb neg x y⟩ :: l) k acc e H = opsDI P cs b K d (.eqb neg x y) l k acc e H [] (eqbV neg (evl e x) (evl e y)) := rfl
theorem opsD_mm {mx : Bool} {x : Operand} {r : List Operand} : opsDR P cs b K (⟨d, none, .mm mx x r⟩ :: l) k acc e H = opsDI P cs b K d (.mm mx x r) l k acc e H [] (mmV mx (evl e x) (evls e r)) := rfl
theorem opsD_shift {op : BinOp} {x y : Operand} : opsDR P cs b K (⟨d, none, .shift op x y⟩ :: l) k acc e H = opsDI P cs b K d (.shift op x y) l k acc e H [] (shiftV op (evl e x) (evl e y)) := rfl
theorem opsD_look {kt : Nat} {zero : Value} {ok : Bool} {m j : Operand} : opsDR P cs b K (⟨d, none, .look kt zero ok m j⟩ :: l) k acc e H = opsDI P cs b K d (.look kt zero ok m j) l k acc e H [] (lookR P H kt zero ok (evl e m) (evl e j)) := rfl
theorem opsD_lenM {x : Operand} : opsDR P cs b K (⟨d, none, .lenM x⟩ :: l) k acc e H = opsDI P cs b K d (.lenM x) l k acc e H [] (lenMR H (evl e x)) := rfl
theorem opsD_b2s {x : Operand} : opsDR P cs b K (⟨d, none, .b2s x⟩ :: l) k acc e H = opsDI P cs b K d (.b2s x) l k acc e H [] (b2sR H (evl e x)) := rfl
end

/- MAPS BY TEXTS -/

/-- A map's row. -/
def mapS (m : List (List UInt8 × Value)) : List (Value × Value) := m.map fun p => (str p.1, p.2)

def findS (s : List UInt8) : List (List UInt8 × Value) → Nat → Option (Nat × Value)
  | [], _ => none
  | p :: r, i => if s = p.1 then some (i, p.2) else findS s r (i + 1)

theorem ba_beq (a b : List UInt8) : ((⟨⟨a⟩⟩ : ByteArray) == (⟨⟨b⟩⟩ : ByteArray)) = decide (a = b) := by
  show ((⟨a⟩ : Array UInt8) == (⟨b⟩ : Array UInt8)) = _
  by_cases h : a = b
  · subst h; simp
  · simp [h]

theorem findNow_S (s : List UInt8) : ∀ (m : List (List UInt8 × Value)) (i : Nat), Instr.findNow .string (str s) (entriesOf (mapS m)) i = some (findS s m i) := by
  intro m
  induction m with
  | nil => intro i; rfl
  | cons p m ih =>
    intro i
    show (match some ((⟨⟨s⟩⟩ : ByteArray) == (⟨⟨p.1⟩⟩ : ByteArray)) with
      | some true => some (some (i, p.2))
      | some false => Instr.findNow .string (str s) (entriesOf (mapS m)) (i + 1)
      | none => none) = _
    rw [ba_beq]
    by_cases h : s = p.1
    · rw [decide_eq_true h]
      simp only [findS, if_pos h]
    · rw [decide_eq_false h]
      simp only [findS, if_neg h]
      exact ih (i + 1)

theorem findA_S {kt : TypeId} (ht : tyU P kt = some .string) (b : Bool) (s : List UInt8) (m : List (List UInt8 × Value)) : findA P b kt (str s) (mapS m) = some (findS s m 0) := by
  unfold findA
  rw [pureRun_bind]
  have h1 : pureRun P (Instr.checkKey b 10000 kt (str s)) = some () := by
    show pureRun P ((underlying kt).bind fun d => _) = _
    rw [pureUnder kt ht]
    rfl
  rw [h1, Option.bind_some]
  show pureRun P ((underlying kt).bind fun d => _) = _
  rw [pureUnder kt ht]
  simp only [findNow_S]
  rfl

def lookX (P : Program) (kt : Nat) (zero : Value) (ok : Bool) (k : Value) : Option ABlk → ARes
  | some (.map es) => bif flat k then lookRes ok zero (findA P es.isEmpty kt k es) else .none
  | _ => .none

theorem look_HP {h : List ABlk} (hl : h.length ≤ 1099511627774) {kt : Nat} {zero : Value} {ok : Bool} {r : Nat} {k : Value} : lookR P (HP h) kt zero ok (.map (some r)) k = lookX P kt zero ok k h[r]? := by
  unfold lookR lookX
  simp only [HP_get h hl]
  cases h[r]? with
  | none => rfl
  | some b => cases b <;> rfl

/-- What a map holds. -/
def getS (m : List (List UInt8 × Value)) (s : List UInt8) : Option Value := (findS s m 0).map (·.2)
def okV (ok : Bool) (zero : Value) : Option Value → Value
  | some v => okd ok v true
  | none => okd ok zero false

theorem lookX_S {kt : Nat} {zero : Value} {ok : Bool} {s : List UInt8} {m : List (List UInt8 × Value)} (ht : tyU P kt = some .string) : lookX P kt zero ok (str s) (some (.map (mapS m))) = val (okV ok zero (getS m s)) := by
  show lookRes ok zero (findA P (mapS m).isEmpty kt (str s) (mapS m)) = _
  rw [findA_S ht]
  unfold getS
  cases findS s m 0 <;> rfl

theorem okd_true {v : Value} {b : Bool} : okd true v b = .tuple ⟨[v, .bool b]⟩ := rfl
theorem okd_false {v : Value} {b : Bool} : okd false v b = v := rfl

def updX (P : Program) (h : List ABlk) (r : Nat) (kt : Nat) (k x : Value) : Option ABlk → ARes
  | some (.map es) => bif flat k && Nat.blt r h.length then updRes (HP h) r es k x (findA P false kt k es) else .none
  | _ => .none

theorem upd_HP {h : List ABlk} (hl : h.length ≤ 1099511627774) {kt : Nat} {r : Nat} {k x : Value} : updA P (HP h) kt (.map (some r)) k x = updX P h r kt k x h[r]? := by
  unfold updA updX
  simp only [HP_get h hl]
  rcases Nat.lt_or_ge r h.length with hr | hr
  · cases h[r]? with
    | none => rfl
    | some b => cases b <;> first | rfl | (simp only [okKey_le (show r ≤ 1099511627774 by omega), nblt, decide_eq_true hr])
  · rw [List.getElem?_eq_none hr]

/-- A new key. -/
theorem updX_new {h : List ABlk} {r kt : Nat} {s : List UInt8} {x : Value} {m : List (List UInt8 × Value)} (ht : tyU P kt = some .string) (hr : r < h.length) (hn : getS m s = none) : updX P h r kt (str s) x (some (.map (mapS m))) = .eff undef (HP (h.set r (.map (mapS (m ++ [(s, x)]))))) := by
  show (bif true && Nat.blt r h.length then updRes (HP h) r (mapS m) (str s) x (findA P false kt (str s) (mapS m)) else .none) = _
  rw [nblt, decide_eq_true hr, findA_S ht]
  unfold getS at hn
  rw [Option.map_eq_none_iff] at hn
  rw [hn]
  show ARes.eff undef ((HP h).set r (.map (mapS m ++ [(str s, x)]))) = _
  rw [HP_set _ _ _ hr]
  simp [mapS]

theorem len_map {h : List ABlk} (hl : h.length ≤ 1099511627774) {r : Nat} {es : List (Value × Value)} (hb : h[r]? = some (.map es)) : lenMR (HP h) (.map (some r)) = val (.int .i64 es.length) := by
  unfold lenMR
  simp only [HP_get h hl, hb]

theorem behind_nil (h : List ABlk) (v : Value) : behind h [] v = h := by unfold behind; cases flat v <;> rfl
theorem behindW_nil (v : Value) : behindW [] v = [] := by unfold behindW; cases flat v <;> rfl

theorem okV_some {ok : Bool} {zero v : Value} : okV ok zero (some v) = okd ok v true := rfl
theorem okV_none {ok : Bool} {zero : Value} : okV ok zero none = okd ok zero false := rfl

end
end Go.Den
