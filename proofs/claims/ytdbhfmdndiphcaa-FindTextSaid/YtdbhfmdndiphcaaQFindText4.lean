/-
  PARTS OF A PROOF, joined by a program (4 of 6): a proved reckoner of the model, and what the functions come to.
-/
import Derived.Test.YtdbhfmdndiphcaaQFindText3
import Derived.Test.YtdbhfmdndiphcaaProg
import Derived.KernelRfl
set_option linter.unusedVariables false
set_option linter.unusedSimpArgs false
namespace Go.Den
noncomputable section
variable {P : Program} {cfg : Cfg} {R : Type}
def tsz (P : Program) (t : TypeId) : Nat := match wrc P t with | some i => i.size | none => 0
inductive SlA (P : Program) (h : List ABlk) : List Value → List Value → Frs → Prop
  | nil : SlA P h [] [] []
  | cons {v v' : Value} {l l' : List Value} {fr : Frs} (hv : Sl 17 v v') (t : SlA P h l l' fr) : SlA P h (v :: l) (v' :: l') fr
  | row {i n c size : Nat} {cs : List Value} {elem : TypeId} {frz : Nat} {l l' : List Value} {fr : Frs} (hb : h[i]? = some (X cs elem frz true)) (hs : tsz P elem = size) (h0 : 0 < size) (hn : n + 1 ≤ c) (hl : (n + 1) * size ≤ cs.length) (hr : wac (slotsOf cs 0 ((n + 1) * size)) = true) (t : SlA P h l l' fr) :
      SlA P h (.slice (some ⟨i, 0, none⟩) (n + 1) (c + 1) :: l) (FL (n + 1) (slotsOf cs 0 ((n + 1) * size)) :: l') ((i, (n + 1) * size) :: fr)
theorem wyv {h : List ABlk} {i : Nat} {b : ABlk} (e : h[i]? = some b) : i < h.length := by
  rcases Nat.lt_or_ge i h.length with h1 | h1
  · exact h1
  · rw [List.getElem?_eq_none h1] at e; cases e
theorem wfxb {h : List ABlk} (hb' : h.length ≤ 1099511627774) {i n c size : Nat} {cs : List Value} {elem : TypeId} {frz : Nat} (hb : h[i]? = some (X cs elem frz true)) (hs : tsz P elem = size) (h0 : 0 < size) (hn : n + 1 ≤ c) (hl : (n + 1) * size ≤ cs.length) (hr : wac (slotsOf cs 0 ((n + 1) * size)) = true)
    (sl : List Value → Option (List Value × Frs)) : wle P (HP h) sl (.slice (some ⟨i, 0, none⟩) (n + 1) (c + 1)) = some (FL (n + 1) (slotsOf cs 0 ((n + 1) * size)), [(i, (n + 1) * size)]) := by
  show won P (HP h) sl ⟨i, 0, none⟩ (n + 1) (c + 1) = _
  unfold won
  rw [wvh h hb', hb]
  have he : wfg P { cells := cs, elem := elem, esz := 1, lens := [], wver := 0, frz := frz, mark := false, pf := true } = size := hs
  simp only [he]
  have h1 : wxdb (HP h) size (n + 1) ⟨i, 0, none⟩ (c + 1) = true := by
    show (Nat.ble (n + 1) c && Nat.blt 0 size) = true
    rw [Nat.ble_eq_true_of_le hn, nblt, decide_eq_true h0]; rfl
  have h2 : rdOk { cells := cs, elem := elem, esz := 1, lens := [], wver := 0, frz := frz, mark := false, pf := true } (aver ⟨i, 0, none⟩) (0 + (n + 1) * size) = true := by
    show (Nat.ble 0 0 && (Nat.ble 0 0 && Nat.ble (0 + (n + 1) * size) cs.length)) = true
    rw [Nat.zero_add, Nat.ble_eq_true_of_le hl]; rfl
  rw [h1, h2]
  simp only [Bool.and_self, cond_true, hr, show whc i = true from wjh (by have := wyv hb; omega), Nat.zero_add]
theorem SlA.sl {h : List ABlk} (hb : h.length ≤ 1099511627774) {a a' : List Value} {fr : Frs} (hs : SlA P h a a' fr) : wkg P (HP h) 20 a = some (a', fr) ∧ wvd a' = [] ∧ ∀ m, whd m a' = a' := by
  induction hs with
  | nil => exact ⟨rfl, rfl, fun _ => rfl⟩
  | cons hv _ ih =>
    obtain ⟨h1, h2, h3⟩ := ih
    refine ⟨?_, by simp [wvd, hv.fz.refs, h2], fun m => by simp [whd, hv.fz.ren m, h3 m]⟩
    rw [wto P (HP h) 19, hv.sl P (HP h) 19 (by omega), h1]
    rfl
  | row hb1 hs h0 hn hl hr _ ih =>
    obtain ⟨h1, h2, h3⟩ := ih
    refine ⟨?_, by show _ ++ wvd _ = _; rw [h2]; rfl, fun m => by show _ :: whd m _ = _; rw [h3 m]; rfl⟩
    rw [wto P (HP h) 19, wfxb hb hb1 hs h0 hn hl hr, h1]
    rfl
def frzAtB (n : Nat) : ABlk → ABlk
  | .cells b => .cells { b with frz := Nat.max b.frz n }
  | b => b
def wun (h : List ABlk) : Frs → List ABlk
  | [] => h
  | (i, n) :: r => (match (wun h r)[i]? with
    | some b => (wun h r).set i (frzAtB n b)
    | none => wun h r)
theorem wnfb (h : List ABlk) (fr : Frs) : (wun h fr).length = h.length := by
  induction fr with
  | nil => rfl
  | cons p r ih =>
    obtain ⟨i, n⟩ := p
    simp only [wun]
    split
    · rw [List.length_set, ih]
    · exact ih
theorem raise_HP {h : List ABlk} (hb : h.length ≤ 1099511627774) (fr : Frs) : raise (HP h) fr = HP (wun h fr) := by
  induction fr with
  | nil => rfl
  | cons p r ih =>
    obtain ⟨i, n⟩ := p
    show frz1 (raise (HP h) r) i n (wydb n ((raise (HP h) r).get i)) = _
    rw [ih, wvh _ (by rw [wnfb]; exact hb)]
    simp only [wun]
    cases hq : (wun h r)[i]? with
    | none => rfl
    | some b =>
      simp only
      have hi := wyv hq
      cases b with
      | cells c => show (HP (wun h r)).set i (.cells _) = _; rw [wsr _ _ _ hi]; rfl
      | map es => show (HP (wun h r)).set i (.map es) = _; rw [wsr _ _ _ hi]; rfl
      | tok a b c => show (HP (wun h r)).set i (.tok a b c) = _; rw [wsr _ _ _ hi]; rfl
section
variable {cs : wnc} {K : KR R} {d : Option Tmp} {l : List RO} {e : Env} {H : AH} {b : Array Nat} {k : Nat} {acc : List Ti}
def wgk (P : Program) (cs : wnc) (b : Array Nat) (K : KR R) (d : Option Tmp) (ri : RI) (l : List RO) (k : Nat) (acc : List Ti) (e : Env) (H : AH) (wr : List Nat) (r : ARes) : Option R := wlx (wrh cs wr H r) ⟨d, none, ri⟩ k acc e H (wke P cs b K l)
theorem opsD_ins {i : Ins} : wke P cs b K (⟨d, none, .ins i⟩ :: l) k acc e H = wgk P cs b K d (.ins i) l k acc e H (web e i) (insA P e H H.n i) := rfl
theorem wgxb {op : BinOp} {j : IntKind} {x y : Operand} : wke P cs b K (⟨d, none, .int2 op j x y⟩ :: l) k acc e H = wgk P cs b K d (.int2 op j x y) l k acc e H [] (wtg op j (evl e x) (evl e y)) := rfl
theorem whxb {j : IntKind} {x : Operand} : wke P cs b K (⟨d, none, .conv j x⟩ :: l) k acc e H = wgk P cs b K d (.conv j x) l k acc e H [] (wxib j (evl e x)) := rfl
theorem opsD_un {op : UnOp} {x : Operand} : wke P cs b K (⟨d, none, .un op x⟩ :: l) k acc e H = wgk P cs b K d (.un op x) l k acc e H [] (unV op (evl e x)) := rfl
theorem wixb {op : BinOp} {x y : Operand} : wke P cs b K (⟨d, none, .str2 op x y⟩ :: l) k acc e H = wgk P cs b K d (.str2 op x y) l k acc e H [] (wibb op (evl e x) (evl e y)) := rfl
theorem wjxb {x y : Operand} : wke P cs b K (⟨d, none, .sidx x y⟩ :: l) k acc e H = wgk P cs b K d (.sidx x y) l k acc e H [] (wjbb (evl e x) (evl e y)) := rfl
theorem wkxb {x : Operand} : wke P cs b K (⟨d, none, .slen x⟩ :: l) k acc e H = wgk P cs b K d (.slen x) l k acc e H [] (wyib (evl e x)) := rfl
theorem opsD_ssl {x : Operand} {lo hi : Option Operand} : wke P cs b K (⟨d, none, .ssl x lo hi⟩ :: l) k acc e H = wgk P cs b K d (.ssl x lo hi) l k acc e H [] (sslV (evl e x) (lo.map (evl e)) (hi.map (evl e))) := rfl
theorem wlxb {x : Operand} : wke P cs b K (⟨d, none, .lenS x⟩ :: l) k acc e H = wgk P cs b K d (.lenS x) l k acc e H [] (wkbb (evl e x)) := rfl
theorem opsD_slS {size : Nat} {x : Operand} {lo hi mx : Option Operand} : wke P cs b K (⟨d, none, .slS size x lo hi mx⟩ :: l) k acc e H = wgk P cs b K d (.slS size x lo hi mx) l k acc e H [] (slSR e H size (evl e x) lo hi mx) := rfl
theorem opsD_eqc {neg : Bool} {ks : List AK} {x y : Operand} : wke P cs b K (⟨d, none, .eqc neg ks x y⟩ :: l) k acc e H = wgk P cs b K d (.eqc neg ks x y) l k acc e H [] (eqcV neg ks (evl e x) (evl e y)) := rfl
theorem opsD_nil : wke P cs b K [] k acc e H = wok b acc K e H := rfl
theorem wmxb {ri : RI} {wr : List Nat} {v : Value} : wgk P cs b K d ri l k acc e H wr (val v) = wke P cs b K l (k + 1) (⟨k, wu e ri, none⟩ :: acc) (e.put d v) H := rfl
theorem woqb {ri : RI} {wr : List Nat} {v : Value} : wgk P cs b K d ri l k acc e H wr (valO (some v)) = wke P cs b K l (k + 1) (⟨k, wu e ri, none⟩ :: acc) (e.put d v) H := rfl
theorem wnxb {ri : RI} {wr : List Nat} {v : Value} {h : List ABlk} {x : ABlk} (hl : h.length ≤ 1099511627774) : wgk P cs b K d ri l k acc e (HP h) wr (.simple v (some x)) = wke P cs b K l (k + 1) (⟨k, h.length :: wu e ri, none⟩ :: acc) (e.put d v) (HP (h ++ [x])) := by
  show wlx (bif whc (HP h).n then Did.did v (some x) false ((HP h).push x) [] else Did.none) _ k acc e (HP h) (wke P cs b K l) = _
  rw [HP_n, wjh hl, wyj]
  show wke P cs b K l (k + 1) (⟨k, (HP h).n :: wu e ri, none⟩ :: acc) _ _ = _
  rw [HP_n]
theorem woxb {ri : RI} {wr : List Nat} {v : Value} {h h' : List ABlk} (hl : h.length ≤ h'.length) : wgk P cs b K d ri l k acc e (HP h) wr (.eff v (HP h')) = wke P cs b K l (k + 1) (⟨k, [], some (wr, h.length, h'.length)⟩ :: acc) (e.put d v) (HP h') := by
  show wlx (bif Nat.ble (HP h).n (HP h').n then Did.did v .none true (HP h') wr else Did.none) _ k acc e (HP h) (wke P cs b K l) = _
  rw [HP_n, HP_n, Nat.ble_eq_true_of_le hl]
  show wke P cs b K l (k + 1) (⟨k, [], some (wr, (HP h).n, (HP h').n)⟩ :: acc) _ _ = _
  rw [HP_n, HP_n]
def opsDC (P : Program) (cs : wnc) (b : Array Nat) (K : KR R) (d : Option Tmp) (ri : RI) (l : List RO) (k : Nat) (acc : List Ti) (e : Env) (H : AH) (x : Did) : Option R := wlx x ⟨d, none, ri⟩ k acc e H (wke P cs b K l)
theorem wpqb {ri : RI} {wr : List Nat} {f : FuncId} {args : List Value} : wgk P cs b K d ri l k acc e H wr (.call f args) = opsDC P cs b K d ri l k acc e H (cs f args H) := rfl
theorem draw_end (h : (wah b acc.reverse && wwj b acc) = true) : wok b acc K e H = K e H := by
  unfold wok
  rw [h]
  rfl
end
theorem wpxb {α : Type} (ex l : List α) (k : Nat) : (ex ++ l)[ex.length + k]? = l[k]? := by
  rw [List.getElem?_append_right (by omega)]
  congr 1; omega
theorem get_app0 {α : Type} (ex l : List α) : (ex ++ l)[ex.length]? = l[0]? := wpxb ex l 0
theorem wqxb {α : Type} (ex l : List α) (k : Nat) (b : α) : (ex ++ l).set (ex.length + k) b = ex ++ l.set k b := by
  rw [List.set_append_right _ _ (by omega)]
  congr 2; omega
theorem set_app0 {α : Type} (ex l : List α) (b : α) : (ex ++ l).set ex.length b = ex ++ l.set 0 b := wqxb ex l 0 b
section
variable {cs : wnc} {K : KR R} {d : Option Tmp} {l : List RO} {e : Env} {H : AH} {b : Array Nat} {k : Nat} {acc : List Ti}
def wqqb (P : Program) (cs : wnc) (b : Array Nat) (K : KR R) (d : Option Tmp) (ri : RI) (l : List RO) (k : Nat) (acc : List Ti) (e : Env) (H : AH) (gs : Option Bool) : Option R := match didG gs (stepR P cs e H ri) H with
  | .did v nb eff H' wr => wke P cs b K l (k + 1) (tiR gs k ri e H nb eff H' wr acc) (e.put d v) H'
  | .none => none
theorem wrqb {g : Tmp} {want : Bool} {ri : RI} : wke P cs b K (⟨d, some (some g, want), ri⟩ :: l) k acc e H = wqqb P cs b K d ri l k acc e H (wvp want (e.get g)) := by
  show wlx (didG (wvp want (e.get g)) (stepR P cs e H ri) H) _ k acc e H (wke P cs b K l) = _
  unfold wqqb
  cases didG (wvp want (e.get g)) (stepR P cs e H ri) H <;> rfl
theorem wumb {ri : RI} : wqqb P cs b K d ri l k acc e H (some true) = wke P cs b K (⟨d, none, ri⟩ :: l) k acc e H := by
  show _ = wlx (didG (some true) (stepR P cs e H ri) H) ⟨d, none, ri⟩ k acc e H (wke P cs b K l)
  unfold wqqb
  cases didG (some true) (stepR P cs e H ri) H <;> rfl
theorem waz {ri : RI} : wqqb P cs b K d ri l k acc e H (some false) = wke P cs b K l (k + 1) acc (e.put d undef) H := rfl
theorem gselV_tt : wvp true (.bool true) = some true := rfl
theorem gselV_tf : wvp true (.bool false) = some false := rfl
theorem gselV_ft : wvp false (.bool true) = some false := rfl
theorem gselV_ff : wvp false (.bool false) = some true := rfl
theorem opsD_eqb {neg : Bool} {x y : Operand} : wke P cs b K (⟨d, none, .eqb neg x y⟩ :: l) k acc e H = wgk P cs b K d (.eqb neg x y) l k acc e H [] (eqbV neg (evl e x) (evl e y)) := rfl
theorem opsD_mm {mx : Bool} {x : Operand} {r : List Operand} : wke P cs b K (⟨d, none, .mm mx x r⟩ :: l) k acc e H = wgk P cs b K d (.mm mx x r) l k acc e H [] (mmV mx (evl e x) (evls e r)) := rfl
theorem wsqb {op : BinOp} {x y : Operand} : wke P cs b K (⟨d, none, .shift op x y⟩ :: l) k acc e H = wgk P cs b K d (.shift op x y) l k acc e H [] (wnp op (evl e x) (evl e y)) := rfl
theorem wrxb {kt : Nat} {zero : Value} {ok : Bool} {m j : Operand} : wke P cs b K (⟨d, none, .look kt zero ok m j⟩ :: l) k acc e H = wgk P cs b K d (.look kt zero ok m j) l k acc e H [] (wzeb P H kt zero ok (evl e m) (evl e j)) := rfl
theorem wsxb {x : Operand} : wke P cs b K (⟨d, none, .lenM x⟩ :: l) k acc e H = wgk P cs b K d (.lenM x) l k acc e H [] (wafb H (evl e x)) := rfl
theorem opsD_b2s {x : Operand} : wke P cs b K (⟨d, none, .b2s x⟩ :: l) k acc e H = wgk P cs b K d (.b2s x) l k acc e H [] (b2sR H (evl e x)) := rfl
end
def mapS (m : List (List UInt8 × Value)) : List (Value × Value) := m.map fun p => (str p.1, p.2)
def wqjb (s : List UInt8) : List (List UInt8 × Value) → Nat → Option (Nat × Value)
  | [], _ => none
  | p :: r, i => if s = p.1 then some (i, p.2) else wqjb s r (i + 1)
theorem ba_beq (a b : List UInt8) : ((⟨⟨a⟩⟩ : ByteArray) == (⟨⟨b⟩⟩ : ByteArray)) = decide (a = b) := by
  show ((⟨a⟩ : Array UInt8) == (⟨b⟩ : Array UInt8)) = _
  by_cases h : a = b
  · subst h; simp
  · simp [h]
theorem wtxb (s : List UInt8) : ∀ (m : List (List UInt8 × Value)) (i : Nat), Instr.findNow .string (str s) (entriesOf (mapS m)) i = some (wqjb s m i) := by
  intro m
  induction m with
  | nil => intro i; rfl
  | cons p m ih =>
    intro i
    show (match some ((⟨⟨s⟩⟩ : ByteArray) == (⟨⟨p.1⟩⟩ : ByteArray)) with
      | some true => some (some (i, p.2))
      | some false => Instr.findNow .string (str s) (entriesOf (mapS m)) (i + 1)
      | none => none) = _
    rw [ba_beq]
    by_cases h : s = p.1
    · rw [decide_eq_true h]
      simp only [wqjb, if_pos h]
    · rw [decide_eq_false h]
      simp only [wqjb, if_neg h]
      exact ih (i + 1)
theorem findA_S {kt : TypeId} (ht : tyU P kt = some .string) (b : Bool) (s : List UInt8) (m : List (List UInt8 × Value)) : wuq P b kt (str s) (mapS m) = some (wqjb s m 0) := by
  unfold wuq
  rw [wpb]
  have h1 : wy P (Instr.checkKey b 10000 kt (str s)) = some () := by
    show wy P ((underlying kt).bind fun d => _) = _
    rw [wxe kt ht]
    rfl
  rw [h1, Option.bind_some]
  show wy P ((underlying kt).bind fun d => _) = _
  rw [wxe kt ht]
  simp only [wtxb]
  rfl
def wuxb (P : Program) (kt : Nat) (zero : Value) (ok : Bool) (k : Value) : Option ABlk → ARes
  | some (.map es) => bif flat k then wsp ok zero (wuq P es.isEmpty kt k es) else .none
  | _ => .none
theorem look_HP {h : List ABlk} (hl : h.length ≤ 1099511627774) {kt : Nat} {zero : Value} {ok : Bool} {r : Nat} {k : Value} : wzeb P (HP h) kt zero ok (.map (some r)) k = wuxb P kt zero ok k h[r]? := by
  unfold wzeb wuxb
  simp only [wvh h hl]
  cases h[r]? with
  | none => rfl
  | some b => cases b <;> rfl
def getS (m : List (List UInt8 × Value)) (s : List UInt8) : Option Value := (wqjb s m 0).map (·.2)
def okV (ok : Bool) (zero : Value) : Option Value → Value
  | some v => okd ok v true
  | none => okd ok zero false
theorem lookX_S {kt : Nat} {zero : Value} {ok : Bool} {s : List UInt8} {m : List (List UInt8 × Value)} (ht : tyU P kt = some .string) : wuxb P kt zero ok (str s) (some (.map (mapS m))) = val (okV ok zero (getS m s)) := by
  show wsp ok zero (wuq P (mapS m).isEmpty kt (str s) (mapS m)) = _
  rw [findA_S ht]
  unfold getS
  cases wqjb s m 0 <;> rfl
theorem okd_true {v : Value} {b : Bool} : okd true v b = .tuple ⟨[v, .bool b]⟩ := rfl
theorem wvxb {v : Value} {b : Bool} : okd false v b = v := rfl
def updX (P : Program) (h : List ABlk) (r : Nat) (kt : Nat) (k x : Value) : Option ABlk → ARes
  | some (.map es) => bif flat k && Nat.blt r h.length then wzx (HP h) r es k x (wuq P false kt k es) else .none
  | _ => .none
theorem upd_HP {h : List ABlk} (hl : h.length ≤ 1099511627774) {kt : Nat} {r : Nat} {k x : Value} : updA P (HP h) kt (.map (some r)) k x = updX P h r kt k x h[r]? := by
  unfold updA updX
  simp only [wvh h hl]
  rcases Nat.lt_or_ge r h.length with hr | hr
  · cases h[r]? with
    | none => rfl
    | some b => cases b <;> first | rfl | (simp only [wjh (show r ≤ 1099511627774 by omega), nblt, decide_eq_true hr])
  · rw [List.getElem?_eq_none hr]
theorem len_map {h : List ABlk} (hl : h.length ≤ 1099511627774) {r : Nat} {es : List (Value × Value)} (hb : h[r]? = some (.map es)) : wafb (HP h) (.map (some r)) = val (.int .i64 es.length) := by
  unfold wafb
  simp only [wvh h hl, hb]
theorem okV_some {ok : Bool} {zero v : Value} : okV ok zero (some v) = okd ok v true := rfl
theorem okV_none {ok : Bool} {zero : Value} : okV ok zero none = okd ok zero false := rfl
end
end Go.Den
namespace Go.Den
noncomputable section
variable {P : Program} {cfg : Cfg} {R : Type}
open Classical in
def lim (P : Program) (cfg : Cfg) : Rec := fun t H => if h : ∃ r, Ev P cfg t H r then some h.choose else none
theorem Ev.same {t : Task} {H : AH} {r r' : Out × AH} (h : Ev P cfg t H r) (h' : Ev P cfg t H r') : r = r' := by
  obtain ⟨n, h⟩ := h
  obtain ⟨m, h'⟩ := h'
  have h1 : den P cfg (max n m) t H = some r := h (max n m) (Nat.le_max_left _ _)
  have h2 : den P cfg (max n m) t H = some r' := h' (max n m) (Nat.le_max_right _ _)
  rw [h1] at h2
  exact Option.some.inj h2
theorem wofb {t : Task} {H : AH} {r : Out × AH} : lim P cfg t H = some r ↔ Ev P cfg t H r := by
  unfold lim
  constructor
  · intro h
    split at h
    · rename_i hx
      cases h
      exact hx.choose_spec
    · cases h
  · intro h
    have hx : ∃ r, Ev P cfg t H r := ⟨r, h⟩
    rw [dif_pos hx, hx.choose_spec.same h]
def Co (P : Program) (cfg : Cfg) (F : Rec → Option R) : Prop := ∀ r, F (lim P cfg) = some r → Evt P cfg F r
theorem Co.const (x : Option R) : Co P cfg (fun _ => x) := fun _ h => Evt.of fun _ => h
theorem Co.task (t : Task) (H : AH) : Co P cfg (fun rec => rec t H) := fun _ h => wofb.1 h
theorem Co.bind {G : Rec → Option (Out × AH) → Option R} (t : Task) (H : AH) (h0 : ∀ rec, G rec none = none) (h : ∀ s, Co P cfg (fun rec => G rec (some s))) : Co P cfg (fun rec => G rec (rec t H)) := by
  intro r hr
  have hr0 : G (lim P cfg) (lim P cfg t H) = some r := hr
  cases hs : lim P cfg t H with
  | none => rw [hs, h0] at hr0; cases hr0
  | some s =>
    have hr' : G (lim P cfg) (some s) = some r := by rw [← hs]; exact hr0
    exact Evt.bind (A := fun rec => rec t H) (F := G) (wofb.1 hs) (h s r hr')
section
variable {W : Rec → Did → Option R}
theorem Co.call1 (h0 : ∀ rec, W rec .none = none) (h : ∀ d, Co P cfg (fun rec => W rec d)) (f : FuncId) (H : AH) (s : Option (List Value × Frs)) : Co P cfg (fun rec => W rec (wfv rec f H s)) := by
  cases s with
  | none => exact h .none
  | some q =>
    obtain ⟨a, fr⟩ := q
    show Co P cfg (fun rec => W rec (wjy rec f H (raise H fr) fr a (wte (raise H fr) 0 a)))
    cases wte (raise H fr) 0 a with
    | none => exact h .none
    | some N => exact Co.bind (G := fun rec o => W rec (wer H (raise H fr) fr N.L (wme (raise H fr) (wvd a ++ wyb (raise H fr) N.L) 0 N.L 0) o)) (.call f (whd N.m a)) N.H (fun rec => h0 rec) (fun s => h _)
theorem Co.callS (h0 : ∀ rec, W rec .none = none) (h : ∀ d, Co P cfg (fun rec => W rec d)) (f : FuncId) (args : List Value) (H : AH) : Co P cfg (fun rec => W rec (callS P cfg rec f args H)) := by
  show Co P cfg (fun rec => W rec (wfeb rec f H (bif (cfg.raw f).1 then some (args, []) else wkg P H 20 args) (cfg.know f)))
  cases cfg.know f with
  | none => exact Co.call1 h0 h f H _
  | some g =>
    cases (bif (cfg.raw f).1 then some (args, []) else wkg P H 20 args) with
    | none => exact h .none
    | some q =>
      obtain ⟨a, fr⟩ := q
      show Co P cfg (fun rec => W rec (callG rec f H a fr (g a)))
      cases g a with
      | some v => exact h _
      | none => exact Co.call1 h0 h f H (some (a, fr))
theorem Co.did (h0 : ∀ rec, W rec .none = none) (h : ∀ d, Co P cfg (fun rec => W rec d)) (wr : List Nat) (H : AH) (x : ARes) : Co P cfg (fun rec => W rec (wrh (Go.Den.callS P cfg rec) wr H x)) := by
  cases x with
  | none => exact h .none
  | simple v b => cases b <;> exact h _
  | eff v H' => exact h _
  | call f args => exact Co.callS h0 h f args H
theorem Co.stepR (h0 : ∀ rec, W rec .none = none) (h : ∀ d, Co P cfg (fun rec => W rec d)) (e : Env) (H : AH) (ri : RI) : Co P cfg (fun rec => W rec (Go.Den.stepR P (Go.Den.callS P cfg rec) e H ri)) := by
  cases ri with
  | ins i => exact Co.did h0 h (web e i) H (insA P e H H.n i)
  | bad => exact h .none
  | _ => exact Co.did h0 h [] H _
end
theorem opsR_co : ∀ (l : List RO) (K : Rec → KR R) (e : Env) (H : AH), (∀ e H, Co P cfg (fun rec => K rec e H)) → Co P cfg (fun rec => opsR P (callS P cfg rec) (K rec) l e H) := by
  intro l
  induction l with
  | nil => intro K e H hK; exact hK e H
  | cons o l ih =>
    intro K e H hK
    show Co P cfg (fun rec => opsK (didG (gsel o.guard e) (stepR P (callS P cfg rec) e H o.ins) H) o.dst e (opsR P (callS P cfg rec) (K rec) l))
    cases gsel o.guard e with
    | none => exact Co.const none
    | some b =>
      cases b with
      | false => exact ih K _ _ hK
      | true =>
        refine Co.stepR (W := fun rec d => opsK d o.dst e (opsR P (callS P cfg rec) (K rec) l)) (fun _ => rfl) (fun d => ?_) e H o.ins
        cases d with
        | none => exact Co.const none
        | did v nb eff H' wr => exact ih K _ _ hK
theorem opsDR_co (before : Array Nat) : ∀ (l : List RO) (K : Rec → KR R) (i : Nat) (acc : List Ti) (e : Env) (H : AH), (∀ e H, Co P cfg (fun rec => K rec e H)) → Co P cfg (fun rec => wke P (callS P cfg rec) before (K rec) l i acc e H) := by
  intro l
  induction l with
  | nil =>
    intro K i acc e H hK
    show Co P cfg (fun rec => bif wah before acc.reverse && wwj before acc then K rec e H else none)
    cases wah before acc.reverse && wwj before acc with
    | true => exact hK e H
    | false => exact Co.const none
  | cons o l ih =>
    intro K i acc e H hK
    show Co P cfg (fun rec => wlx (didG (gsel o.guard e) (stepR P (callS P cfg rec) e H o.ins) H) o i acc e H (wke P (callS P cfg rec) before (K rec) l))
    cases gsel o.guard e with
    | none => exact Co.const none
    | some b =>
      cases b with
      | false => exact ih K _ _ _ _ hK
      | true =>
        refine Co.stepR (W := fun rec d => wlx d o i acc e H (wke P (callS P cfg rec) before (K rec) l)) (fun _ => rfl) (fun d => ?_) e H o.ins
        cases d with
        | none => exact Co.const none
        | did v nb eff H' wr => exact ih K _ _ _ _ hK
theorem wvmb {f : FuncId} {p : Nat} : ∀ (rc : RC) (K : Rec → KC R), (∀ x e H, Co P cfg (fun rec => K rec x e H)) → ∀ e H, Co P cfg (fun rec => wxf P cfg f p rec rc (K rec) e H) := by
  intro rc
  induction rc with
  | skip => intro K hK e H; exact hK _ _ _
  | ret => intro K hK e H; exact hK _ _ _
  | exit id => intro K hK e H; exact hK _ _ _
  | bad => intro K hK e H; exact Co.const none
  | ops l => intro K hK e H; exact opsR_co l (fun rec => K rec .normal) e H (hK .normal)
  | draw b l => intro K hK e H; exact opsDR_co b l (fun rec => K rec .normal) 0 [] e H (hK .normal)
  | seq a b iha ihb =>
    intro K hK e H
    refine iha (fun rec => seqK (wxf P cfg f p rec b (K rec)) (K rec)) (fun x e H => ?_) e H
    cases x with
    | normal => exact ihb K hK e H
    | _ => exact hK _ _ _
  | cond c a b iha ihb =>
    intro K hK e H
    show Co P cfg (fun rec => wgeb (evl e c) (wxf P cfg f p rec a (K rec) e H) (wxf P cfg f p rec b (K rec) e H))
    cases evl e c with
    | bool q =>
      cases q with
      | true => exact iha K hK e H
      | false => exact ihb K hK e H
    | _ => exact Co.const none
  | block id a ih =>
    intro K hK e H
    refine ih (fun rec => wkp id (K rec)) (fun x e H => ?_) e H
    cases x with
    | exit j =>
      show Co P cfg (fun rec => bif Nat.beq j id then K rec .normal e H else K rec (.exit j) e H)
      cases Nat.beq j id with
      | true => exact hK _ _ _
      | false => exact hK _ _ _
    | _ => exact hK _ _ _
  | loop c =>
    intro K hK e H
    show Co P cfg (fun rec => wix rec f p c e H (K rec) (cfg.live f (wvc c)))
    cases cfg.live f (wvc c) with
    | none =>
      refine Co.bind (G := fun rec o => wwlb (K rec) o) (.loop f p c e) H (fun _ => rfl) (fun s => ?_)
      obtain ⟨o, H1⟩ := s
      cases o with
      | code x e1 => exact hK _ _ _
      | val v => exact Co.const none
    | some q =>
      obtain ⟨ins, outs, k⟩ := q
      show Co P cfg (fun rec => bif lvOk e.n ins && lvOk e.n outs then wkib rec f p c e.n e.g ins outs k (evs e ins) (K rec) (wte H p (evs e ins)) else none)
      cases lvOk e.n ins && lvOk e.n outs with
      | false => exact Co.const none
      | true =>
        show Co P cfg (fun rec => wkib rec f p c e.n e.g ins outs k (evs e ins) (K rec) (wte H p (evs e ins)))
        cases wte H p (evs e ins) with
        | none => exact Co.const none
        | some N =>
          refine Co.bind (G := fun rec o => whub e.n e.g outs k (K rec) o) (.loop f p c (envL e.n e.g ins (whd N.m (evs e ins)))) N.H (fun _ => rfl) (fun s => ?_)
          obtain ⟨o, H1⟩ := s
          cases o with
          | val v => exact Co.const none
          | code x e1 =>
            show Co P cfg (fun rec => bif Nat.beq k 999999 then K rec x (envL e.n e.g outs (evs e1 outs)) H1 else (bif Nat.beq H1.n k && whc k then K rec x (envL e.n e.g outs (evs e1 outs)) (wsh (whx H1 0 k) AH0) else none))
            cases Nat.beq k 999999 with
            | true => exact hK _ _ _
            | false =>
              show Co P cfg (fun rec => bif Nat.beq H1.n k && whc k then K rec x (envL e.n e.g outs (evs e1 outs)) (wsh (whx H1 0 k) AH0) else none)
              cases Nat.beq H1.n k && whc k with
              | true => exact hK _ _ _
              | false => exact Co.const none
theorem wwxb {f : FuncId} {p : Nat} {c : Code} (lv : Option (List Tmp × List Tmp × Nat)) (x : AExit) (e : Env) (H : AH) : Co P cfg (fun rec => wxj rec f p c lv x e H) := by
  cases lv with
  | none => cases x <;> first | exact Co.task _ _ | exact Co.const _
  | some q =>
    obtain ⟨ins, outs, k⟩ := q
    show Co P cfg (fun rec => bif lvOk e.n ins && lvOk e.n outs then wlh ins outs e.n e.g rec f p c x e H else none)
    cases lvOk e.n ins && lvOk e.n outs with
    | false => exact Co.const none
    | true =>
      show Co P cfg (fun rec => wlh ins outs e.n e.g rec f p c x e H)
      cases x with
      | normal =>
        unfold wlh
        simp only
        cases wte H p (evs e ins) with
        | none => exact Co.const none
        | some N => exact Co.task _ _
      | _ =>
        unfold wlh
        exact Co.const _
theorem wxxb (hc : PlainA cfg) {f : FuncId} {F : RF} (hF : trF P f = some F) {args : List Value} {h : List ABlk} {r : Out × AH} (ha : args.length ≤ F.n) (hn : F.n ≤ 1099511627774) {b : Bool}
    (h1 : wxf P cfg f h.length (lim P cfg) F.code (retR P b h.length F.res) (SE (E0 F.n (cfg.glob, cfg.own f)) (argl args 0 [])) (HP h) = some r) (hr : (cfg.raw f).2 = b) : lim P cfg (.call f args) (HP h) = some r := by
  refine wofb.2 (Ev.step ?_)
  have h2 := wvmb (P := P) (cfg := cfg) (f := f) (p := h.length) F.code (fun _ => retR P b h.length F.res) (fun _ _ _ => Co.const _) _ _ r h1
  refine h2.mono fun rec h3 => ?_
  refine call_ok hF ha hn ?_
  have h4 : (⟨F.n, wrab args 0 .leaf, (cfg.glob, cfg.own f)⟩ : Env) = SE (E0 F.n (cfg.glob, cfg.own f)) (argl args 0 []) := argl_env F.n _ args 0 [] .leaf (by omega) rfl
  rw [h4, hr, HP_n]
  exact h3
theorem wjc (hc : PlainA cfg) {f : FuncId} {F : RF} (hF : trF P f = some F) {args : List Value} {h : List ABlk} {r : Out × AH} (ha : args.length ≤ F.n) (hn : F.n ≤ 1099511627774)
    (h1 : wxf P cfg f h.length (lim P cfg) F.code (retR P false h.length F.res) (SE (E0 F.n (cfg.glob, cfg.own f)) (argl args 0 [])) (HP h) = some r) (hr : (cfg.raw f).2 = false := by rfl) : lim P cfg (.call f args) (HP h) = some r := wxxb hc hF ha hn h1 hr
theorem ww {f : FuncId} {p : Nat} {c : Code} {rc : RC} (hrc : trC P c = rc) {e : Env} {H : AH} {r : Out × AH} (h1 : wxf P cfg f p (lim P cfg) rc (wxj (lim P cfg) f p c (cfg.live f (wvc c))) e H = some r) : lim P cfg (.loop f p c e) H = some r := by
  refine wofb.2 (Ev.step ?_)
  have h2 := wvmb (P := P) (cfg := cfg) (f := f) (p := p) rc (fun rec => wxj rec f p c (cfg.live f (wvc c))) (fun x e H => wwxb _ x e H) _ _ r h1
  exact h2.mono fun rec h3 => wpvb hrc h3
end
end Go.Den
namespace Go.Den
noncomputable section
variable {P : Program} {cfg : Cfg} {R : Type}
def wvn : Value → Bool
  | .int _ _ | .bool _ | .string _ | .float _ _ | .complex _ _ _ | .nilFunc | .nilIface | .pointer none | .map none => true
  | .func (.yield _) ⟨_⟩ ⟨[]⟩ => true
  | .func (.yield _) ⟨_⟩ ⟨[.bool true]⟩ => true
  | _ => false
def wye : List Value → Bool
  | [] => true
  | v :: r => wvn v && wye r
theorem wyxb : wye [] = true := rfl
theorem wss {v : Value} {r : List Value} : wye (v :: r) = (wvn v && wye r) := rfl
theorem wgt {a b : List Value} : wye (a ++ b) = (wye a && wye b) := by
  induction a with
  | nil => rfl
  | cons v r ih => simp only [List.cons_append, wye, ih, Bool.and_assoc]
theorem wzxb {l : List Value} : wye l = true ↔ ∀ v ∈ l, wvn v = true := by
  induction l with
  | nil => simp [wye]
  | cons a l ih => simp [wye, ih]
theorem atom_int {k : IntKind} {n : Int} : wvn (.int k n) = true := rfl
theorem wayb {b : Bool} : wvn (.bool b) = true := rfl
theorem wrjb {s : ByteArray} : wvn (.string s) = true := rfl
theorem atom_FL {n : Nat} {cs : List Value} : wvn (FL n cs) = true := rfl
theorem atom_FP {n : Nat} {cs : List Value} : wvn (FP n cs) = true := rfl
theorem wbyb : wvn (.pointer none) = true := rfl
theorem wcyb : wvn .nilFunc = true := rfl
theorem wdyb : wvn .nilIface = true := rfl
structure AtomOk (v : Value) : Prop where
  refs : refs v = []
  toks : toks v = []
  no : wyd v = true
  ren : ∀ m, renV m v = v
  sld : ∀ (P : Program) (H : AH) (sl : List Value → Option (List Value × Frs)), wle P H sl v = some (v, [])
  one : oneCell v = true
  nf : nfV v = v
  jk : isJK v = false
  cells : v.cells = ⟨[v]⟩
theorem wak {v : Value} (h : wvn v = true) : AtomOk v := by
  unfold wvn at h
  split at h <;> first
    | exact ⟨rfl, rfl, rfl, fun _ => rfl, fun _ _ _ => rfl, rfl, rfl, rfl, rfl⟩
    | (exact ⟨rfl, rfl, rfl, fun _ => rfl, fun _ _ _ => rfl, wzy, rfl, wjjb, rfl⟩)
    | (refine ⟨rfl, rfl, rfl, fun _ => rfl, fun _ _ _ => rfl, ?_, rfl, ?_, rfl⟩ <;> first | rfl | (unfold isJK; split <;> simp_all) | (exact wuo (fun _ h => by cases h) (fun _ h => by cases h) (by unfold isJK; split <;> simp_all)))
    | cases h
theorem wtqb {l : List Value} (h : wye l = true) : wvd l = [] := by
  induction l with
  | nil => rfl
  | cons v r ih => simp only [wye, Bool.and_eq_true] at h; simp only [wvd, (wak h.1).refs, ih h.2, List.append_nil]
theorem wuqb {l : List Value} (h : wye l = true) : wdp l = [] := by
  induction l with
  | nil => rfl
  | cons v r ih => simp only [wye, Bool.and_eq_true] at h; simp only [wdp, (wak h.1).toks, ih h.2, List.append_nil]
theorem wxi {l : List Value} (h : wye l = true) : wac l = true := by
  induction l with
  | nil => rfl
  | cons v r ih => simp only [wye, Bool.and_eq_true] at h; simp only [wac, (wak h.1).no, ih h.2, Bool.and_self]
theorem wbz {l : List Value} (h : wye l = true) {m : Nm} : whd m l = l := by
  induction l with
  | nil => rfl
  | cons v r ih => simp only [wye, Bool.and_eq_true] at h; simp only [whd, (wak h.1).ren, ih h.2]
theorem wvqb {l : List Value} (h : wye l = true) {H : AH} {d : Nat} : wkg P H (d + 1) l = some (l, []) := by
  induction l with
  | nil => rfl
  | cons v r ih => simp only [wye, Bool.and_eq_true] at h; rw [wto, (wak h.1).sld, ih h.2]; rfl
theorem wwn {l : List Value} (h : wye l = true) : l.all oneCell = true := by
  induction l with
  | nil => rfl
  | cons v r ih => simp only [wye, Bool.and_eq_true] at h; simp only [List.all_cons, (wak h.1).one, ih h.2, Bool.and_self]
theorem wtbb {l : List Value} (h : wye l = true) : nfL l = l := by
  induction l with
  | nil => rfl
  | cons v r ih => simp only [wye, Bool.and_eq_true] at h; simp only [nfL, (wak h.1).nf, ih h.2]
theorem wwqb {H : AH} {d : Nat} : wkg P H (d + 1) [] = some ([], []) := rfl
theorem wsjb {H : AH} {d : Nat} {v : Value} {l : List Value} : wkg P H (d + 1) (v :: l) = wmt (one2 (wle P H (wkg P H d) v)) (wkg P H (d + 1) l) := rfl
theorem wxqb {a b : List Value} {f g : Frs} : wmt (some (a, f)) (some (b, g)) = some (a ++ b, f ++ g) := rfl
theorem weyb {v : Value} {f : Frs} : one2 (some (v, f)) = some ([v], f) := rfl
section
variable {H : AH} {sl : List Value → Option (List Value × Frs)}
theorem seal_int {k : IntKind} {n : Int} : wle P H sl (.int k n) = some (.int k n, []) := rfl
theorem wfyb {b : Bool} : wle P H sl (.bool b) = some (.bool b, []) := rfl
theorem wtjb {s : ByteArray} : wle P H sl (.string s) = some (.string s, []) := rfl
theorem wpfb {k : FloatKind} {a b : Nat} : wle P H sl (.complex k a b) = some (.complex k a b, []) := rfl
theorem seal_FL {n : Nat} {cs : List Value} : wle P H sl (FL n cs) = some (FL n cs, []) := rfl
theorem seal_FO {t n : Nat} {cs : List Value} : wle P H sl (FO t n cs) = some (FL n cs, []) := rfl
theorem seal_FP {n : Nat} {cs : List Value} : wle P H sl (FP n cs) = some (FP n cs, []) := rfl
theorem wgyb : wle P H sl (.slice none 0 0) = some (FL 0 [], []) := rfl
theorem seal_noS {a : Addr} {c : Nat} : wle P H sl (.slice (some a) 0 c) = some (FL 0 [], []) := rfl
theorem seal_ptr {a : Option Addr} : wle P H sl (.pointer a) = some (.pointer a, []) := rfl
theorem seal_map {a : Option Nat} : wle P H sl (.map a) = some (.map a, []) := rfl
theorem whyb : wle P H sl .nilFunc = some (.nilFunc, []) := rfl
theorem wiyb : wle P H sl .nilIface = some (.nilIface, []) := rfl
def aggO : Option (List Value × Frs) → Option (Value × Frs)
  | some (l, f) => some (.agg ⟨l⟩, f)
  | none => none
def tupO : Option (List Value × Frs) → Option (Value × Frs)
  | some (l, f) => some (.tuple ⟨l⟩, f)
  | none => none
def funO (g : FuncId) : Option (List Value × Frs) → Option (List Value × Frs) → Option (Value × Frs)
  | some (a, p), some (b, q) => some (.func (.func g) ⟨a⟩ ⟨b⟩, p ++ q)
  | _, _ => none
theorem seal_agg {cs : List Value} : wle P H sl (.agg ⟨cs⟩) = aggO (sl cs) := rfl
theorem wyqb {cs : List Value} : wle P H sl (.tuple ⟨cs⟩) = tupO (sl cs) := rfl
theorem wjyb {g : FuncId} {f c : List Value} : wle P H sl (.func (.func g) ⟨f⟩ ⟨c⟩) = funO g (sl f) (sl c) := by
  show (match sl f, sl c with | some (a, p), some (b, q) => some (Value.func (.func g) ⟨a⟩ ⟨b⟩, p ++ q) | _, _ => none) = _
  cases sl f <;> cases sl c <;> rfl
theorem wkyb {l : List Value} {f : Frs} : aggO (some (l, f)) = some (.agg ⟨l⟩, f) := rfl
theorem wlyb {l : List Value} {f : Frs} : tupO (some (l, f)) = some (.tuple ⟨l⟩, f) := rfl
theorem wmyb {g : FuncId} {a b : List Value} {p q : Frs} : funO g (some (a, p)) (some (b, q)) = some (.func (.func g) ⟨a⟩ ⟨b⟩, p ++ q) := rfl
end
def rowS (P : Program) (i n c : Nat) : Option ABlk → Option (Value × Frs)
  | some (.cells b) => bif Nat.ble n c && (isNil b.lens && (b.pf && (Nat.blt 0 (tsz P b.elem) && Nat.ble (n * tsz P b.elem) b.cells.length))) then (bif wac (slotsOf b.cells 0 (n * tsz P b.elem)) then some (FL n (slotsOf b.cells 0 (n * tsz P b.elem)), [(i, n * tsz P b.elem)]) else none) else none
  | _ => none
theorem rowS_X {i n c : Nat} {cs : List Value} {elem : TypeId} {frz : Nat} : rowS P i n c (some (X cs elem frz true)) = bif Nat.ble n c && (Nat.blt 0 (tsz P elem) && Nat.ble (n * tsz P elem) cs.length) then (bif wac (slotsOf cs 0 (n * tsz P elem)) then some (FL n (slotsOf cs 0 (n * tsz P elem)), [(i, n * tsz P elem)]) else none) else none := rfl
def EJ (n : Nat) (g : (Nat → Option (List Value)) × Bool) : Env := ⟨n, wwob n .leaf, g⟩
theorem EJ_n {n : Nat} {g : (Nat → Option (List Value)) × Bool} : (EJ n g).n = n := rfl
theorem EJ_g {n : Nat} {g : (Nat → Option (List Value)) × Bool} : (EJ n g).g = g := rfl
def lkE (b : Env) : List (Nat × Value) → Nat → Value
  | [], j => b.get j
  | (k, v) :: l, j => if j = k then (if k < b.n then v else lkE b l j) else lkE b l j
theorem lkE_nil {b : Env} {j : Nat} : lkE b [] j = b.get j := rfl
def lkH (q : Bool) (v : Value) (b : Env) (l : List (Nat × Value)) (j : Nat) : Value := bif q then v else lkE b l j
def lkB (q : Bool) (k : Nat) (v : Value) (b : Env) (l : List (Nat × Value)) (j : Nat) : Value := bif q then lkH (Nat.blt k b.n) v b l j else lkE b l j
theorem lkE_cons {b : Env} {k j : Nat} {v : Value} {l : List (Nat × Value)} : lkE b ((k, v) :: l) j = lkB (Nat.beq j k) k v b l j := by
  rw [nbeq]
  show (if j = k then (if k < b.n then v else lkE b l j) else lkE b l j) = (bif decide (j = k) then (bif Nat.blt k b.n then v else lkE b l j) else lkE b l j)
  rw [nblt]
  by_cases h1 : j = k <;> by_cases h2 : k < b.n <;> simp [h1, h2]
theorem lkB_true {k j : Nat} {v : Value} {b : Env} {l : List (Nat × Value)} : lkB true k v b l j = lkH (Nat.blt k b.n) v b l j := rfl
theorem wnyb {k j : Nat} {v : Value} {b : Env} {l : List (Nat × Value)} : lkB false k v b l j = lkE b l j := rfl
theorem lkH_true {j : Nat} {v : Value} {b : Env} {l : List (Nat × Value)} : lkH true v b l j = v := rfl
theorem woyb {b : Env} {l : List (Nat × Value)} {j : Nat} (hn : b.n ≤ 1099511627774) : (SE b l).get j = lkE b l j := by
  induction l with
  | nil => rfl
  | cons p l ih =>
    obtain ⟨k, v⟩ := p
    show ((SE b l).put (some k) v).get j = (if j = k then (if k < b.n then v else lkE b l j) else lkE b l j)
    rw [wcjb _ _ _ (by rw [SE_n]; exact hn), SE_n, ← ih]
    by_cases h1 : j = k <;> by_cases h2 : k < b.n <;> simp [h1, h2]
theorem look_E0 {n : Nat} {g : (Nat → Option (List Value)) × Bool} {l : List (Nat × Value)} {j : Nat} (hn : n ≤ 1099511627774) : (SE (E0 n g) l).get j = lkE (E0 n g) l j := woyb hn
theorem look_EJ {n : Nat} {g : (Nat → Option (List Value)) × Bool} {l : List (Nat × Value)} {j : Nat} (hn : n ≤ 1099511627774) : (SE (EJ n g) l).get j = lkE (EJ n g) l j := woyb hn
def zipR : List Nat → List Value → List (Nat × Value) → List (Nat × Value)
  | k :: r, v :: s, acc => zipR r s ((k, v) :: acc)
  | _, _, acc => acc
theorem zipR_nil {acc : List (Nat × Value)} : zipR [] [] acc = acc := rfl
theorem wpyb {k : Nat} {v : Value} {r : List Nat} {s : List Value} {acc : List (Nat × Value)} : zipR (k :: r) (v :: s) acc = zipR r s ((k, v) :: acc) := rfl
theorem envL_SE0 {n : Nat} {g : (Nat → Option (List Value)) × Bool} : ∀ (lv : List Nat) (vs : List Value) (t : T Value) (acc : List (Nat × Value)), lvOk n lv = true → SE (EJ n g) acc = ⟨n, t, g⟩ → (⟨n, putL lv vs t, g⟩ : Env) = SE (EJ n g) (zipR lv vs acc) := by
  intro lv
  induction lv with
  | nil => intro vs t acc _ h; cases vs <;> exact h.symm
  | cons k r ih =>
    intro vs t acc hk h
    cases vs with
    | nil => exact h.symm
    | cons v s =>
      simp only [lvOk, List.all_cons, Bool.and_eq_true] at hk
      refine ih s _ _ hk.2 ?_
      show (SE (EJ n g) acc).put (some k) v = _
      rw [h]
      show (bif Nat.blt k n then (⟨n, T.put v 40 t k, g⟩ : Env) else ⟨n, t, g⟩) = _
      rw [hk.1, cond_true]
theorem envL_SE {n : Nat} {g : (Nat → Option (List Value)) × Bool} {lv : List Nat} {vs : List Value} (h : lvOk n lv = true) : envL n g lv vs = SE (EJ n g) (zipR lv vs []) := envL_SE0 lv vs _ [] h rfl
theorem lvOk_nil {n : Nat} : lvOk n [] = true := rfl
theorem wqyb {n k : Nat} {r : List Nat} : lvOk n (k :: r) = (decide (k < n) && lvOk n r) := by
  show (Nat.blt k n && _) = _
  rw [nblt]; rfl
theorem evs_nil {e : Env} : evs e [] = [] := rfl
theorem evs_cons {e : Env} {k : Nat} {r : List Nat} : evs e (k :: r) = e.get k :: evs e r := rfl
def wzv : ABlk → Bool
  | .cells b => isNil b.lens
  | _ => true
def cloL (h : List ABlk) : Nat → List Nat → List Nat → Option (List Nat)
  | 0, _, _ => none
  | _ + 1, done, [] => some done
  | d + 1, done, id :: r => bif memN id done then cloL h d done r else cloL h d (done ++ [id]) (r ++ (wwp h[id]?).map (·.1))
theorem cloL_ok {h : List ABlk} (hh : h.length ≤ 1099511627774) : ∀ (d : Nat) (done todo L : List Nat), cloL h d done todo = some L → ∀ D, d ≤ D → clo (HP h) D done todo = some L := by
  intro d
  induction d with
  | zero => intro done todo L h1; cases h1
  | succ d ih =>
    intro done todo L h1 D hD
    obtain ⟨D, rfl⟩ : ∃ D', D = D' + 1 := ⟨D - 1, by omega⟩
    cases todo with
    | nil => exact h1
    | cons id r =>
      show (bif memN id done then clo (HP h) D done r else clo (HP h) D (done ++ [id]) (r ++ (wwp ((HP h).get id)).map (·.1))) = some L
      rw [wvh h hh]
      simp only [cloL] at h1
      cases hm : memN id done with
      | true => rw [hm, cond_true] at h1; rw [cond_true]; exact ih _ _ _ h1 D (by omega)
      | false => rw [hm, cond_false] at h1; rw [cond_false]; exact ih _ _ _ h1 D (by omega)
theorem cloL_nil {h : List ABlk} {d : Nat} {done : List Nat} : cloL h (d + 1) done [] = some done := rfl
def cloB (q : Bool) (h : List ABlk) (d id : Nat) (done r : List Nat) : Option (List Nat) := bif q then cloL h d done r else cloL h d (done ++ [id]) (r ++ (wwp h[id]?).map (·.1))
theorem wryb {h : List ABlk} {d id : Nat} {done r : List Nat} : cloL h (d + 1) done (id :: r) = cloB (memN id done) h d id done r := rfl
theorem wsyb {h : List ABlk} {d id : Nat} {done r : List Nat} : cloB true h d id done r = cloL h d done r := rfl
theorem wzqb {h : List ABlk} {d id : Nat} {done r : List Nat} : cloB false h d id done r = cloL h d (done ++ [id]) (r ++ (wwp h[id]?).map (·.1)) := rfl
theorem memN_nil {n : Nat} : memN n [] = false := rfl
theorem wtyb {n a : Nat} {r : List Nat} : memN n (a :: r) = (decide (a = n) || memN n r) := by
  show (bif Nat.beq a n then true else memN n r) = _
  rw [nbeq]; cases decide (a = n) <;> rfl
def normX (h : List ABlk) (p : Nat) (vs : List Value) : Option (List Nat) → Option Nrm
  | some L => wzdb (HP h) p vs (some L)
  | none => wte (HP h) p vs
theorem normA_X {h : List ABlk} (hh : h.length ≤ 1099511627774) {p : Nat} {vs : List Value} : wte (HP h) p vs = normX h p vs (cloL h 60 [] (upto p ++ (wvd vs).map (·.1))) := by
  cases hc : cloL h 60 [] (upto p ++ (wvd vs).map (·.1)) with
  | none => rfl
  | some L =>
    show wzdb (HP h) p vs (clo (HP h) 100000 [] (upto p ++ (wvd vs).map (·.1))) = _
    rw [cloL_ok hh 60 _ _ _ hc 100000 (by omega)]
    rfl
def nm1 (L : List Nat) : Nm := fun id ver => (idxOf id L 0, ver)
def wan (m : Nm) : ABlk → ABlk
  | .cells b => .cells { b with cells := (bif b.pf then b.cells else whd m b.cells) }
  | .map es => .map (renM m es)
  | .tok a b c => .tok a b c
def renO (m : Nm) : Option ABlk → ABlk
  | some b => wan m b
  | none => .map []
def wujb (h : List ABlk) (m : Nm) : List Nat → List ABlk
  | [] => []
  | id :: r => renO m h[id]? :: wujb h m r
def hasL (h : List ABlk) : List Nat → Bool
  | [] => true
  | id :: r => (h[id]?).isSome && hasL h r
def wvjb (h : List ABlk) : List Nat → List (Nat × Nat)
  | [] => []
  | id :: r => wwp h[id]? ++ wvjb h r
theorem wubb {h : List ABlk} (hh : h.length ≤ 1099511627774) (L : List Nat) : wyb (HP h) L = wvjb h L := by
  induction L with
  | nil => rfl
  | cons id r ih => simp only [wyb, wvjb, wvh h hh, ih]
theorem wqfb {h : List ABlk} (he : h.all wzv = true) (id : Nat) : isOpen h[id]? = false := by
  cases hq : h[id]? with
  | none => rfl
  | some b =>
    have := (List.all_eq_true.1 he) b (List.mem_of_getElem? hq)
    cases b with
    | cells c =>
      show (match c.lens with | [] => false | _ => true) = false
      have h1 : isNil c.lens = true := this
      cases hl : c.lens with
      | nil => rfl
      | cons a r => rw [hl] at h1; cases h1
    | _ => rfl
theorem wuyb {h : List ABlk} (hh : h.length ≤ 1099511627774) (he : h.all wzv = true) (rs : List (Nat × Nat)) (p : Nat) : ∀ (L : List Nat) (ix : Nat), wme (HP h) rs p L ix = L.map fun id => (id, false) := by
  intro L
  induction L with
  | nil => intro ix; rfl
  | cons id r ih =>
    intro ix
    have : wfx (HP h) rs p ix id = false := by
      unfold wfx
      rw [wvh h hh, wqfb he]
      simp
    simp only [wme, this, ih, List.map_cons]
theorem wwmb (n : Nat) : ∀ (L : List Nat), wjf n (L.map fun id => (id, false)) = false := by
  intro L
  induction L with
  | nil => rfl
  | cons id r ih =>
    show (bif Nat.beq id n then false else wjf n (r.map fun id => (id, false))) = false
    rw [ih]; cases Nat.beq id n <;> rfl
theorem renB_no (m : Nm) (b : ABlk) : renB m false (some b) = some (wan m b) := by cases b <;> rfl
theorem wvyb (l l0 : List ABlk) : wsh (l.map some) (HP l0) = HP (l0 ++ l) := by
  induction l generalizing l0 with
  | nil => simp [wsh]
  | cons b l ih =>
    show wsh (l.map some) ((HP l0).push b) = _
    rw [wyj, ih, List.append_assoc]
    rfl
theorem renBs_X {h : List ABlk} (hh : h.length ≤ 1099511627774) (m : Nm) : ∀ (L : List Nat), hasL h L = true → wwm (HP h) m (L.map fun id => (id, false)) = (wujb h m L).map some := by
  intro L
  induction L with
  | nil => intro _; rfl
  | cons id r ih =>
    intro hq
    simp only [hasL, Bool.and_eq_true] at hq
    simp only [List.map_cons, wwm, wujb, ih hq.2, wvh h hh]
    cases hb : h[id]? with
    | none => rw [hb] at hq; cases hq.1
    | some b => rw [renB_no]; rfl
theorem hasAll_X {h : List ABlk} (hh : h.length ≤ 1099511627774) (L : List Nat) : hasAll (HP h) L = hasL h L := by
  induction L with
  | nil => rfl
  | cons id r ih => simp only [hasAll, hasL, wvh h hh, ih]
theorem warb {h : List ABlk} (hh : h.length ≤ 1099511627774) (he : h.all wzv = true) {p : Nat} {vs : List Value} {L : List Nat} (h1 : (wms L && (pins p L 0 && (hasL h L && (wdr L (wvd vs ++ wvjb h L) && whc L.length)))) = true) :
    normX h p vs (some L) = some ⟨L, nm1 L, HP (wujb h (nm1 L) L)⟩ := by
  show wzdb (HP h) p vs (some L) = _
  simp only [Bool.and_eq_true] at h1
  obtain ⟨a1, a2, a3, a4, a5⟩ := h1
  unfold wzdb
  simp only []
  rw [wuyb hh he, wubb hh, hasAll_X hh, a1, a2, a3, a4, a5]
  have ht : ∀ ts : List Nat, wcv (L.map fun id => (id, false)) ts = true := by
    intro ts
    simp [wcv, wwmb]
  have hm : nmOf L (L.map fun id => (id, false)) = nm1 L := by
    funext id ver
    simp only [nmOf, wwmb, nm1, cond_false]
  simp only [ht, Bool.and_self, cond_true, hm]
  rw [renBs_X hh _ _ a3]
  congr 2
  exact wvyb _ []
theorem wwyb : wms [] = true := rfl
theorem wbrb {a : Nat} {r : List Nat} : wms (a :: r) = (!(memN a r) && wms r) := rfl
theorem pins_nil {p i : Nat} : pins p [] i = decide (p ≤ i) := nble p i
theorem wxyb {p i a : Nat} {r : List Nat} : pins p (a :: r) i = bif decide (i < p) then decide (a = i) && pins p r (i + 1) else true := by
  show (bif Nat.blt i p then Nat.beq a i && pins p r (i + 1) else true) = _
  rw [nblt, nbeq]
theorem hasL_nil {h : List ABlk} : hasL h [] = true := rfl
theorem wyyb {h : List ABlk} {id : Nat} {r : List Nat} : hasL h (id :: r) = ((h[id]?).isSome && hasL h r) := rfl
theorem wzyb {h : List ABlk} : wvjb h [] = [] := rfl
theorem wcrb {h : List ABlk} {id : Nat} {r : List Nat} : wvjb h (id :: r) = wwp h[id]? ++ wvjb h r := rfl
theorem wdrb {L : List Nat} : wdr L [] = true := rfl
theorem wwjb {L : List Nat} {a b : Nat} {r : List (Nat × Nat)} : wdr L ((a, b) :: r) = (memN a L && wdr L r) := rfl
theorem wazb {k : Nat} : whc k = decide (k ≤ 1099511627774) := nble _ _
theorem wbzb {h : List ABlk} {m : Nm} : wujb h m [] = [] := rfl
theorem werb {h : List ABlk} {m : Nm} {id : Nat} {r : List Nat} : wujb h m (id :: r) = renO m h[id]? :: wujb h m r := rfl
theorem wczb {m : Nm} {b : ABlk} : renO m (some b) = wan m b := rfl
theorem renBX_X {m : Nm} {cs : List Value} {t z : Nat} {pf : Bool} : wan m (X cs t z pf) = X (bif pf then cs else whd m cs) t z pf := rfl
theorem wdzb {m : Nm} {es : List (Value × Value)} : wan m (.map es) = .map (renM m es) := rfl
theorem wezb {m : Nm} {a b c : Nat} : wan m (.tok a b c) = .tok a b c := rfl
theorem exactB_X {cs : List Value} {t z : Nat} {pf : Bool} : wzv (X cs t z pf) = true := rfl
theorem wfrb {es : List (Value × Value)} : wzv (.map es) = true := rfl
theorem wgrb {a b c : Nat} : wzv (.tok a b c) = true := rfl
theorem refsB_X {cs : List Value} {t z : Nat} {pf : Bool} : wwp (some (X cs t z pf)) = bif pf then [] else wvd cs := rfl
theorem wfzb {es : List (Value × Value)} : wwp (some (.map es)) = wbv es := rfl
theorem wgzb {a b c : Nat} : wwp (some (.tok a b c)) = [] := rfl
theorem nm1_at {L : List Nat} {id ver : Nat} : nm1 L id ver = (idxOf id L 0, ver) := rfl
theorem whrb {n a k : Nat} {r : List Nat} : idxOf n (a :: r) k = bif decide (a = n) then k else idxOf n r (k + 1) := by
  show (bif Nat.beq a n then k else idxOf n r (k + 1)) = _
  rw [nbeq]
theorem upto_0 : upto 0 = [] := rfl
theorem upto_1 : upto 1 = [0] := rfl
theorem upto_2 : upto 2 = [0, 1] := rfl
theorem upto_3 : upto 3 = [0, 1, 2] := rfl
theorem upto_4 : upto 4 = [0, 1, 2, 3] := rfl
theorem upto_5 : upto 5 = [0, 1, 2, 3, 4] := rfl
theorem upto_6 : upto 6 = [0, 1, 2, 3, 4, 5] := rfl
theorem whzb : wvd [] = [] := rfl
theorem wirb {v : Value} {l : List Value} : wvd (v :: l) = refs v ++ wvd l := rfl
theorem refs_int {k : IntKind} {n : Int} : refs (.int k n) = [] := rfl
theorem ren_int {m : Nm} {k : IntKind} {n : Int} : renV m (.int k n) = .int k n := rfl
theorem wizb {b : Bool} : refs (.bool b) = [] := rfl
theorem ren_bool {m : Nm} {b : Bool} : renV m (.bool b) = .bool b := rfl
theorem wxjb {s : ByteArray} : refs (.string s) = [] := rfl
theorem wjrb {m : Nm} {s : ByteArray} : renV m (.string s) = .string s := rfl
theorem wrfb {k : FloatKind} {a b : Nat} : refs (.complex k a b) = [] := rfl
theorem wyjb {m : Nm} {k : FloatKind} {a b : Nat} : renV m (.complex k a b) = .complex k a b := rfl
theorem refs_FL {n : Nat} {cs : List Value} : refs (FL n cs) = [] := rfl
theorem ren_FL {m : Nm} {n : Nat} {cs : List Value} : renV m (FL n cs) = FL n cs := rfl
theorem refs_FP {n : Nat} {cs : List Value} : refs (FP n cs) = [] := rfl
theorem ren_FP {m : Nm} {n : Nat} {cs : List Value} : renV m (FP n cs) = FP n cs := rfl
theorem wjzb  : refs (.pointer none) = [] := rfl
theorem ren_nilP {m : Nm}  : renV m (.pointer none) = .pointer none := rfl
theorem wkzb  : refs (.nilFunc) = [] := rfl
theorem ren_nilF {m : Nm}  : renV m (.nilFunc) = .nilFunc := rfl
theorem wlzb  : refs (.nilIface) = [] := rfl
theorem ren_nilI {m : Nm}  : renV m (.nilIface) = .nilIface := rfl
theorem refs_ptr {i o : Nat} : refs (.pointer (some ⟨i, o, none⟩)) = [(i, 0)] := rfl
theorem wmzb {n c : Nat} : refs (.slice none n c) = [] := rfl
theorem refs_row {i o n c : Nat} : refs (.slice (some ⟨i, o, none⟩) (n + 1) c) = [(i, 0)] := rfl
theorem wnzb {i o : Nat} : refs (.slice (some ⟨i, o, none⟩) 0 1) = [] := rfl
theorem wozb {i o n c : Nat} : refs (.slice (some ⟨i, o, none⟩) n (c + 2)) = [(i, 0)] := by
  show (bif Nat.beq n 0 && Nat.ble (c + 2) 1 then [] else [(i, 0)]) = _
  have : Nat.ble (c + 2) 1 = false := by rw [nble]; simp
  rw [this, Bool.and_false]; rfl
theorem refs_map {r : Nat} : refs (.map (some r)) = [(r, 0)] := rfl
theorem refs_FO {t n : Nat} {cs : List Value} : refs (FO t n cs) = [(t, n)] := rfl
theorem refs_agg {l : List Value} : refs (.agg ⟨l⟩) = wvd l := rfl
theorem wkrb {l : List Value} : refs (.tuple ⟨l⟩) = wvd l := rfl
theorem wpzb {g : FuncId} {a b : List Value} : refs (.func (.func g) ⟨a⟩ ⟨b⟩) = wvd a ++ wvd b := rfl
theorem wqzb : wbv [] = [] := rfl
theorem wlrb {k v : Value} {l : List (Value × Value)} : wbv ((k, v) :: l) = refs v ++ wbv l := rfl
theorem wrzb {m : Nm} : whd m [] = [] := rfl
theorem wmrb {m : Nm} {v : Value} {l : List Value} : whd m (v :: l) = renV m v :: whd m l := rfl
theorem ren_ptr {m : Nm} {i o : Nat} : renV m (.pointer (some ⟨i, o, none⟩)) = .pointer (some ⟨(m i 0).1, o, wxp none (m i 0).2⟩) := rfl
theorem wszb : wxp none 0 = none := rfl
theorem ren_nilS {m : Nm} {n c : Nat} : renV m (.slice none n c) = .slice none n c := rfl
theorem ren_row {m : Nm} {i o n c : Nat} : renV m (.slice (some ⟨i, o, none⟩) (n + 1) c) = .slice (some ⟨(m i 0).1, o, wxp none (m i 0).2⟩) (n + 1) c := rfl
theorem ren_row0 {m : Nm} {i o : Nat} : renV m (.slice (some ⟨i, o, none⟩) 0 1) = .slice (some ⟨i, o, none⟩) 0 1 := rfl
theorem ren_rowC {m : Nm} {i o n c : Nat} : renV m (.slice (some ⟨i, o, none⟩) n (c + 2)) = .slice (some ⟨(m i 0).1, o, wxp none (m i 0).2⟩) n (c + 2) := by
  show (bif Nat.beq n 0 && Nat.ble (c + 2) 1 then _ else _) = _
  have : Nat.ble (c + 2) 1 = false := by rw [nble]; simp
  rw [this, Bool.and_false]; rfl
theorem ren_map {m : Nm} {r : Nat} : renV m (.map (some r)) = .map (some (m r 0).1) := rfl
theorem ren_FO {m : Nm} {t n : Nat} {cs : List Value} : renV m (FO t n cs) = FO (m t n).1 n cs := rfl
theorem ren_agg {m : Nm} {l : List Value} : renV m (.agg ⟨l⟩) = .agg ⟨whd m l⟩ := rfl
theorem wtzb {m : Nm} {l : List Value} : renV m (.tuple ⟨l⟩) = .tuple ⟨whd m l⟩ := rfl
theorem ren_func {m : Nm} {g : FuncId} {a b : List Value} : renV m (.func (.func g) ⟨a⟩ ⟨b⟩) = .func (.func g) ⟨whd m a⟩ ⟨whd m b⟩ := rfl
theorem renM_nil {m : Nm} : renM m [] = [] := rfl
theorem wuzb {m : Nm} {k v : Value} {l : List (Value × Value)} : renM m ((k, v) :: l) = (k, renV m v) :: renM m l := rfl
def wvbb (l : List (Value × Value)) : Bool := l.all fun p => wvn p.2
theorem wnrb {l : List (Value × Value)} (h : wvbb l = true) : wbv l = [] := by
  induction l with
  | nil => rfl
  | cons p r ih => simp only [wvbb, List.all_cons, Bool.and_eq_true] at h; simp only [wbv, (wak h.1).refs, ih h.2, List.append_nil]
theorem wvzb {m : Nm} {l : List (Value × Value)} (h : wvbb l = true) : renM m l = l := by
  induction l with
  | nil => rfl
  | cons p r ih => simp only [wvbb, List.all_cons, Bool.and_eq_true] at h; simp only [renM, (wak h.1).ren, ih h.2]
theorem worb {l : List (Value × Value)} (h : wvbb l = true) : whib l = [] := by
  induction l with
  | nil => rfl
  | cons p r ih => simp only [wvbb, List.all_cons, Bool.and_eq_true] at h; simp only [whib, (wak h.1).toks, ih h.2, List.append_nil]
section
variable {rec : Rec} {f : FuncId} {p : Nat} {c : Code} {n : Nat} {g : (Nat → Option (List Value)) × Bool} {ins outs : List Tmp} {K : KC R}
def loopY (n : Nat) (g : (Nat → Option (List Value)) × Bool) (outs : List Tmp) (K : KC R) : Option (Out × AH) → Option R
  | some (.code x e, H) => K x (envL n g outs (evs e outs)) H
  | _ => none
def loopX (rec : Rec) (f : FuncId) (p : Nat) (c : Code) (n : Nat) (g : (Nat → Option (List Value)) × Bool) (ins outs : List Tmp) (K : KC R) (vs : List Value) : Option Nrm → Option R
  | some N => loopY n g outs K (rec (.loop f p c (envL n g ins (whd N.m vs))) N.H)
  | none => none
theorem wwzb {e : Env} {H : AH} (h1 : lvOk e.n ins = true) (h2 : lvOk e.n outs = true) : wix rec f p c e H K (some (ins, outs, 999999)) = loopX rec f p c e.n e.g ins outs K (evs e ins) (wte H p (evs e ins)) := by
  show (bif lvOk e.n ins && lvOk e.n outs then wkib rec f p c e.n e.g ins outs 999999 (evs e ins) K (wte H p (evs e ins)) else none) = _
  rw [h1, h2]
  show wkib rec f p c e.n e.g ins outs 999999 (evs e ins) K (wte H p (evs e ins)) = _
  cases wte H p (evs e ins) with
  | none => rfl
  | some N =>
    show whub e.n e.g outs 999999 K _ = loopY e.n e.g outs K _
    cases rec (.loop f p c (envL e.n e.g ins (whd N.m (evs e ins)))) N.H with
    | none => rfl
    | some q =>
      obtain ⟨o, H1⟩ := q
      cases o <;> rfl
theorem wprb {vs : List Value} {L : List Nat} {m : Nm} {H : AH} : loopX rec f p c n g ins outs K vs (some ⟨L, m, H⟩) = loopY n g outs K (rec (.loop f p c (envL n g ins (whd m vs))) H) := rfl
theorem wqrb {x : AExit} {e : Env} {H : AH} : loopY n g outs K (some (.code x e, H)) = K x (envL n g outs (evs e outs)) H := rfl
def roundX (rec : Rec) (f : FuncId) (p : Nat) (c : Code) (n : Nat) (g : (Nat → Option (List Value)) × Bool) (ins : List Tmp) (vs : List Value) : Option Nrm → Option (Out × AH)
  | some N => rec (.loop f p c (envL n g ins (whd N.m vs))) N.H
  | none => none
def wxzb (x : AExit) (n : Nat) (g : (Nat → Option (List Value)) × Bool) (outs : List Tmp) (vs : List Value) : Option Nrm → Option (Out × AH)
  | some N => some (.code x (envL n g outs (whd N.m vs)), N.H)
  | none => none
theorem wzjb {vs : List Value} {L : List Nat} {m : Nm} {H : AH} : roundX rec f p c n g ins vs (some ⟨L, m, H⟩) = rec (.loop f p c (envL n g ins (whd m vs))) H := rfl
theorem wakb {x : AExit} {vs : List Value} {L : List Nat} {m : Nm} {H : AH} : wxzb x n g outs vs (some ⟨L, m, H⟩) = some (.code x (envL n g outs (whd m vs)), H) := rfl
theorem wbkb {e : Env} {H : AH} {k : Nat} (h1 : lvOk e.n ins = true) (h2 : lvOk e.n outs = true) : wxj rec f p c (some (ins, outs, k)) .normal e H = roundX rec f p c e.n e.g ins (evs e ins) (wte H p (evs e ins)) := by
  show (bif lvOk e.n ins && lvOk e.n outs then wlh ins outs e.n e.g rec f p c .normal e H else none) = _
  rw [h1, h2]
  show wlh ins outs e.n e.g rec f p c .normal e H = _
  unfold wlh
  simp only
  cases wte H p (evs e ins) <;> rfl
theorem wyzb {e : Env} {H : AH} {k id : Nat} (h1 : lvOk e.n ins = true) (h2 : lvOk e.n outs = true) : wxj rec f p c (some (ins, outs, k)) (.exit id) e H = wxzb (.exit id) e.n e.g outs (evs e outs) (wte H p (evs e outs)) := by
  show (bif lvOk e.n ins && lvOk e.n outs then wlh ins outs e.n e.g rec f p c (.exit id) e H else none) = _
  rw [h1, h2]
  show wlh ins outs e.n e.g rec f p c (.exit id) e H = _
  unfold wlh
  simp only
  cases wte H p (evs e outs) <;> rfl
theorem wrrb {e : Env} {H : AH} {k : Nat} (h1 : lvOk e.n ins = true) (h2 : lvOk e.n outs = true) : wxj rec f p c (some (ins, outs, k)) .ret e H = wxzb .ret e.n e.g outs (evs e outs) (wte H p (evs e outs)) := by
  show (bif lvOk e.n ins && lvOk e.n outs then wlh ins outs e.n e.g rec f p c .ret e H else none) = _
  rw [h1, h2]
  show wlh ins outs e.n e.g rec f p c .ret e H = _
  unfold wlh
  simp only
  cases wte H p (evs e outs) <;> rfl
end
theorem retR_end {raw : Bool} {p : Nat} {rs : List CRes} {e : Env} {H : AH} : retR P raw p rs .ret e H = valK P raw p H (resR H e rs) := rfl
theorem wzzb {raw : Bool} {p : Nat} {rs : List CRes} {e : Env} {H : AH} : retR P raw p rs .normal e H = valK P raw p H (resR H e rs) := rfl
theorem waac {p : Nat} {H : AH} {l : List Value} : valK P false p H (some l) = wxob p H (wkg P H 20 [wie l]) := rfl
theorem valK_raw {p : Nat} {H : AH} {l : List Value} : valK P true p H (some l) = wxob p H (some ([wie l], [])) := rfl
theorem wsrb {p : Nat} {H : AH} {v : Value} {fr : Frs} : wxob p H (some ([v], fr)) = outK (wte (raise H fr) p [v]) v := rfl
theorem wbac {L : List Nat} {m : Nm} {H : AH} {v : Value} : outK (some ⟨L, m, H⟩) v = some (.val (renV m v), H) := rfl
theorem one_1 {v : Value} : wie [v] = v := rfl
theorem one_0 : wie [] = .tuple ⟨[]⟩ := rfl
theorem one_2 {v u : Value} {l : List Value} : wie (v :: u :: l) = .tuple ⟨v :: u :: l⟩ := rfl
theorem wcac {H : AH} : raise H [] = H := rfl
theorem AH0_HP : AH0 = HP [] := rfl
theorem wdac {h : List ABlk} : wun h [] = h := rfl
def weac (h : List ABlk) (i n : Nat) : Option ABlk → List ABlk
  | some b => h.set i (frzAtB n b)
  | none => h
theorem wtrb {h : List ABlk} {i n : Nat} {r : Frs} : wun h ((i, n) :: r) = weac (wun h r) i n (wun h r)[i]? := by
  simp only [wun, weac]
  try (cases (wun h r)[i]? <;> rfl)
theorem frzSet_X {h : List ABlk} {i n : Nat} {cs : List Value} {t z : Nat} {pf : Bool} : weac h i n (some (X cs t z pf)) = h.set i (X cs t (max z n) pf) := rfl
section
variable {rec : Rec} {f : FuncId}
theorem wckb {H : AH} {a : List Value} {fr : Frs} : wfv rec f H (some (a, fr)) = wjy rec f H (raise H fr) fr a (wte (raise H fr) 0 a) := rfl
def fls (L : List Nat) : List (Nat × Bool) := L.map fun id => (id, false)
theorem wdkb {H : AH} {h : List ABlk} (hh : h.length ≤ 1099511627774) (he : h.all wzv = true) {fr : Frs} {a : List Value} {L : List Nat} {m : Nm} {H2 : AH} : wjy rec f H (HP h) fr a (some ⟨L, m, H2⟩) = wer H (HP h) fr L (fls L) (rec (.call f (whd m a)) H2) := by
  show wer H (HP h) fr L (wme (HP h) (wvd a ++ wyb (HP h) L) 0 L 0) _ = _
  rw [wuyb hh he]
  rfl
def bk (n : Nat) (L : List Nat) : Nm := fun ix s => bif Nat.blt ix L.length then (getN L ix, s) else (n + (ix - L.length), s)
def whg (τ : Nm) : List ABlk → List Nat → List ABlk → List ABlk
  | h, [], g => h ++ g.map (wan τ)
  | h, id :: r, b :: g => whg τ (h.set id (wan τ b)) r g
  | h, _ :: _, [] => h
theorem tops_no {h : List ABlk} : ∀ (L : List Nat), wij (HP h) (L.map fun id => (id, false)) = L.map fun _ => 0 := by
  intro L
  induction L with
  | nil => rfl
  | cons id r ih => simp only [List.map_cons, wij, cond_false, ih]
theorem wsfb : ∀ (L : List Nat) (k : Nat), getN (L.map fun _ => 0) k = 0 := by
  intro L
  induction L with
  | nil => intro k; rfl
  | cons a r ih => intro k; cases k with | zero => rfl | succ j => exact ih j
theorem wfac (n : Nat) (L : List Nat) : wpn n L.length L (L.map fun _ => 0) = bk n L := by
  funext ix s
  show (bif Nat.blt ix L.length then (getN L ix, bif Nat.beq (getN (L.map fun _ => 0) ix) 0 then s else Nat.add (getN (L.map fun _ => 0) ix) s) else (n + (ix - L.length), s)) = _
  rw [wsfb]
  rfl
theorem wgac (k : Nat) (L ts : List Nat) : wev k (L.map fun _ => 0) ts = true := by
  unfold wev
  rw [List.all_eq_true]
  intro t _
  rw [wsfb]
  cases Nat.blt t k <;> rfl
theorem wurb (Hc : AH) : ∀ (L : List Nat) (ix : Nat), wsl Hc (L.map fun id => (id, false)) ix = true := by
  intro L
  induction L with
  | nil => intro ix; rfl
  | cons id r ih => intro ix; simp only [List.map_cons, wsl, cond_false, ih, Bool.and_self]
theorem wxmb (m : Nm) (t0 f0 : Nat) (b : ABlk) : weh m false t0 f0 (some b) = some (wan m b) := by cases b <;> rfl
theorem wekb {g : List ABlk} (hg : g.length ≤ 1099511627774) : ∀ (k : Nat), k ≤ g.length → hasAll (HP g) (upto k) = true := by
  intro k
  have happ : ∀ (a b : List Nat), hasAll (HP g) (a ++ b) = (hasAll (HP g) a && hasAll (HP g) b) := by
    intro a b
    induction a with
    | nil => rfl
    | cons x r ih => simp only [List.cons_append, hasAll, ih, Bool.and_assoc]
  induction k with
  | zero => intro _; rfl
  | succ k ih =>
    intro hk
    show hasAll (HP g) (upto k ++ [k]) = true
    rw [happ, ih (by omega)]
    simp only [hasAll, wvh g hg, List.getElem?_eq_getElem (show k < g.length by omega)]
    rfl
theorem news_HP (m : Nm) {g : List ABlk} (hg : g.length ≤ 1099511627774) : ∀ (d k : Nat) (h : List ABlk), k + d = g.length → news m (HP g) k d (HP h) = HP (h ++ (g.drop k).map (wan m)) := by
  intro d
  induction d with
  | zero => intro k h hk; rw [List.drop_of_length_le (by omega), List.map_nil, List.append_nil]; rfl
  | succ d ih =>
    intro k h hk
    show news m (HP g) (k + 1) d (addO (HP h) (weh m false 0 0 ((HP g).get k))) = _
    rw [wvh g hg, List.getElem?_eq_getElem (by omega), wxmb]
    show news m (HP g) (k + 1) d ((HP h).push (wan m g[k])) = _
    rw [wyj, ih (k + 1) _ (by omega), List.drop_eq_getElem_cons (show k < g.length by omega), List.map_cons, List.append_assoc]
    rfl
theorem backs_HP (m : Nm) (H1 : AH) {g : List ABlk} (hg : g.length ≤ 1099511627774) : ∀ (L : List Nat) (ix : Nat) (h : List ABlk), ix + L.length ≤ g.length → (∀ id ∈ L, id < h.length) →
    HP (whg m h L (g.drop ix)) = HP ((fun h' => h' ++ (g.drop (ix + L.length)).map (wan m)) (whg m h L ((g.drop ix).take L.length))) ∧ wfk m H1 (HP g) (L.map fun id => (id, false)) ix (HP h) = HP (whg m h L ((g.drop ix).take L.length)) := by
  intro L
  induction L with
  | nil =>
    intro ix h hix _
    refine ⟨?_, ?_⟩
    · simp [whg]
    · simp [whg, wfk]
  | cons id r ih =>
    intro ix h hix hid
    simp only [List.length_cons] at hix
    have hd : g.drop ix = g[ix] :: g.drop (ix + 1) := List.drop_eq_getElem_cons (by omega)
    obtain ⟨i1, i2⟩ := ih (ix + 1) (h.set id (wan m g[ix])) (by omega) (fun x hx => by rw [List.length_set]; exact hid x (List.mem_cons_of_mem _ hx))
    refine ⟨?_, ?_⟩
    · rw [hd]
      simp only [List.length_cons, List.take_succ_cons, whg]
      rw [i1, show ix + 1 + r.length = ix + (r.length + 1) by omega]
    · show wfk m H1 (HP g) (r.map fun id => (id, false)) (ix + 1) (setO (HP h) id (weh m false (wvf (H1.get id)) (wvob (H1.get id)) ((HP g).get ix))) = _
      rw [wvh g hg, List.getElem?_eq_getElem (by omega), wxmb]
      show wfk m H1 (HP g) (r.map fun id => (id, false)) (ix + 1) ((HP h).set id (wan m g[ix])) = _
      rw [wsr _ _ _ (hid id (List.mem_cons_self ..)), i2, hd]
      simp only [List.length_cons, List.take_succ_cons, whg]
theorem wtfb (m : Nm) (h : List ABlk) (L : List Nat) (g : List ABlk) (hl : L.length ≤ g.length) : whg m h L g = whg m h L (g.take L.length) ++ (g.drop L.length).map (wan m) := by
  induction L generalizing h g with
  | nil => simp [whg]
  | cons id r ih =>
    cases g with
    | nil => simp at hl
    | cons b g =>
      simp only [List.length_cons, Nat.add_le_add_iff_right] at hl
      simp only [whg, List.length_cons, List.take_succ_cons, List.drop_succ_cons]
      exact ih _ _ hl
def chg (h h' : List ABlk) (L : List Nat) (fr : Frs) : List Nat := changed (HP h) (HP h') L ++ wxm fr
theorem wtr {h : List ABlk} {fr : Frs} {L : List Nat} {v : Value} {g : List ABlk} (hL : ∀ id ∈ L, id < h.length) (hg : L.length ≤ g.length) (hk : h.length + g.length ≤ 1099511627774) :
    wjj (HP h) fr L (L.map fun id => (id, false)) v (HP g) = .did (renV (bk h.length L) v) none true (HP (whg (bk h.length L) h L g)) (chg h (whg (bk h.length L) h L g) L fr) := by
  unfold wjj
  have hg' : g.length ≤ 1099511627774 := by omega
  have h1 : wdv L = true := by
    unfold wdv
    rw [List.all_eq_true]
    intro id hid
    exact wjh (by have := hL id hid; omega)
  have h2 : Nat.ble L.length (HP g).n = true := by rw [HP_n]; exact Nat.ble_eq_true_of_le hg
  have h3 : whc ((HP h).n + (HP g).n) = true := by rw [HP_n, HP_n]; exact wjh hk
  rw [h1, h2, h3, tops_no, wgac, wurb, wekb hg' _ hg, HP_n, HP_n, wfac]
  simp only [Bool.and_self, cond_true]
  have h4 := (backs_HP (bk h.length L) (HP h) hg' L 0 h (by omega) hL).2
  rw [List.drop_zero] at h4
  rw [h4, news_HP _ hg' _ _ _ (by omega), ← wtfb _ _ _ _ hg]
  rfl
theorem wfkb {H : AH} {h : List ABlk} {fr : Frs} {a : Nat} {L : List Nat} {v : Value} {g : List ABlk} (hL : ((a :: L).all fun id => decide (id < h.length)) = true) (hg : (a :: L).length ≤ g.length) (hk : h.length + g.length ≤ 1099511627774) :
    wer H (HP h) fr (a :: L) (fls (a :: L)) (some (.val v, HP g)) = .did (renV (bk h.length (a :: L)) v) none true (HP (whg (bk h.length (a :: L)) h (a :: L) g)) (chg h (whg (bk h.length (a :: L)) h (a :: L) g) (a :: L) fr) := by
  show (bif isNil (a :: L) && flat v then Did.did v none true H [] else wjj (HP h) fr (a :: L) _ v (HP g)) = _
  exact wtr (fun id hid => of_decide_eq_true (List.all_eq_true.1 hL id hid)) hg hk
def fzn1 : Value → Bool
  | .agg ⟨l⟩ => wye l
  | v => wvn v
def frzV : Value → Bool
  | .tuple ⟨l⟩ => l.all fzn1
  | v => fzn1 v
theorem fzn1_agg {l : List Value} : fzn1 (.agg ⟨l⟩) = wye l := rfl
theorem fzn1_int {k : IntKind} {n : Int} : fzn1 (.int k n) = true := rfl
theorem whac {b : Bool} : fzn1 (.bool b) = true := rfl
theorem wgkb {s : ByteArray} : fzn1 (.string s) = true := rfl
theorem wufb {k : FloatKind} {a b : Nat} : fzn1 (.complex k a b) = true := rfl
theorem fzn1_FL {n : Nat} {cs : List Value} : fzn1 (FL n cs) = true := rfl
theorem fzn1_FP {n : Nat} {cs : List Value} : fzn1 (FP n cs) = true := rfl
theorem wiac : fzn1 (.pointer none) = true := rfl
theorem wjac : fzn1 .nilIface = true := rfl
theorem wvrb {l : List Value} : frzV (.tuple ⟨l⟩) = l.all fzn1 := rfl
theorem frzV_agg {l : List Value} : frzV (.agg ⟨l⟩) = wye l := rfl
theorem frzV_int {k : IntKind} {n : Int} : frzV (.int k n) = true := rfl
theorem wkac {b : Bool} : frzV (.bool b) = true := rfl
theorem whkb {s : ByteArray} : frzV (.string s) = true := rfl
theorem wvfb {k : FloatKind} {a b : Nat} : frzV (.complex k a b) = true := rfl
theorem frzV_FL {n : Nat} {cs : List Value} : frzV (FL n cs) = true := rfl
theorem frzV_FP {n : Nat} {cs : List Value} : frzV (FP n cs) = true := rfl
theorem wlac : frzV (.pointer none) = true := rfl
theorem wmac : frzV .nilIface = true := rfl
theorem wnac {v : Value} (h : fzn1 v = true) (m : Nm) : renV m v = v := by
  unfold fzn1 at h
  split at h
  · show Value.agg ⟨whd m _⟩ = _; rw [wbz h]
  · exact (wak h).ren m
theorem frzL_ok {l : List Value} (h : l.all fzn1 = true) (m : Nm) : whd m l = l := by
  induction l with
  | nil => rfl
  | cons v r ih => simp only [List.all_cons, Bool.and_eq_true] at h; simp only [whd, wnac h.1, ih h.2]
theorem woac {v : Value} (h : frzV v = true) (m : Nm) : renV m v = v := by
  unfold frzV at h
  split at h
  · show Value.tuple ⟨whd m _⟩ = _; rw [frzL_ok h]
  · exact wnac h m
theorem wikb {h : List ABlk} {v : Value} {b : ABlk} {g : List ABlk} (hf : flat v = false) (hk : h.length + (b :: g).length ≤ 1099511627774) : wer (HP h) (HP h) [] [] (fls []) (some (.val v, HP (b :: g))) = .did (renV (bk h.length []) v) none true (HP (h ++ (b :: g).map (wan (bk h.length [])))) [] := by
  show (bif isNil [] && flat v then Did.did v none true (HP h) [] else wjj (HP h) [] [] _ v (HP (b :: g))) = _
  rw [hf]
  show wjj (HP h) [] [] (([] : List Nat).map fun id => (id, false)) v (HP (b :: g)) = _
  rw [wtr (L := []) (fun id hid => by cases hid) (Nat.zero_le _) hk]
  simp only [whg]
  rfl
theorem wjkb {h : List ABlk} {v : Value} (hv : frzV v = true) (hk : h.length ≤ 1099511627774) : wer (HP h) (HP h) [] [] (fls []) (some (.val v, HP [])) = .did v none true (HP h) [] := by
  show (bif isNil [] && flat v then Did.did v none true (HP h) [] else wjj (HP h) [] [] _ v (HP [])) = _
  cases hf : flat v with
  | true => rfl
  | false =>
    show wjj (HP h) [] [] (([] : List Nat).map fun id => (id, false)) v (HP []) = _
    rw [wtr (L := []) (fun id hid => by cases hid) (Nat.zero_le _) (by simpa using hk), woac hv]
    simp only [whg, List.map_nil, List.append_nil]
    rfl
theorem wkkb {h h1 : List ABlk} {p : Nat × Nat} {fr : Frs} {v : Value} (hv : frzV v = true) (hk : h1.length ≤ 1099511627774) : wer (HP h) (HP h1) (p :: fr) [] (fls []) (some (.val v, HP [])) = .did v none true (HP (bif flat v then h else h1)) (bif flat v then [] else wxm (p :: fr)) := by
  show (bif isNil [] && flat v then Did.did v none true (HP h) [] else wjj (HP h1) (p :: fr) [] _ v (HP [])) = _
  cases hf : flat v with
  | true => rfl
  | false =>
    show wjj (HP h1) (p :: fr) [] (([] : List Nat).map fun id => (id, false)) v (HP []) = _
    rw [wtr (L := []) (fun id hid => by cases hid) (Nat.zero_le _) (by simpa using hk), woac hv]
    simp only [whg, List.map_nil, List.append_nil]
    rfl
theorem wpac {t n : Nat} {cs : List Value} : wyd (FO t n cs) = false := rfl
theorem wqac {n : Nat} {cs : List Value} : wyd (FP n cs) = true := rfl
theorem wwrb {a : Addr} : wyd (.pointer (some a)) = false := rfl
theorem wlkb : wyd (.pointer none) = true := rfl
theorem wwfb {a : Option Addr} {n c : Nat} : wyd (.slice a n c) = false := rfl
theorem wxrb {r : Nat} : wyd (.map (some r)) = false := rfl
theorem wrac {a : Option Nat} : (Value.map a).cells = ⟨[.map a]⟩ := eq_of_heq HEq.rfl
theorem wwbb {k : FloatKind} {a b : Nat} : (Value.complex k a b).cells = ⟨[.complex k a b]⟩ := eq_of_heq HEq.rfl
theorem wyrb : Value.nilFunc.cells = ⟨[.nilFunc]⟩ := eq_of_heq HEq.rfl
theorem isJK_map {a : Option Nat} : isJK (.map a) = false := eq_of_heq HEq.rfl
theorem wxfb {k : FloatKind} {a b : Nat} : isJK (.complex k a b) = false := eq_of_heq HEq.rfl
theorem wsac : isJK .nilFunc = false := eq_of_heq HEq.rfl
theorem wtac {n : Nat} {cs : List Value} : isJK (FP n cs) = false := by unfold isJK; split <;> simp_all
theorem isJK_fun {g : FuncId} {a c : Array Value} : isJK (.func (.func g) a c) = false := by unfold isJK; split <;> simp_all
theorem wmkb {a : Option Nat} : oneCell (.map a) = true := eq_of_heq HEq.rfl
theorem waw {k : FloatKind} {a b : Nat} : oneCell (.complex k a b) = true := eq_of_heq HEq.rfl
theorem wyfb : oneCell .nilFunc = true := eq_of_heq HEq.rfl
theorem wzrb {n : Nat} {cs : List Value} : oneCell (FP n cs) = true := wuo (fun _ h => by cases h) (fun _ h => by cases h) wtac
theorem nilc_ptr {a : Addr} : wwcb (.pointer (some a)) = val (.pointer (some a)) := rfl
theorem nilc_FP {n : Nat} {cs : List Value} : wwcb (FP n cs) = val (FP n cs) := rfl
theorem mm_min2 {k : IntKind} {a b : Int} : mmV false (.int k a) [.int k b] = val (.int k (min a b)) := by
  show valO (some (.int k (if b < a then b else a))) = _
  rw [show (if b < a then b else a) = min a b by split <;> omega]; rfl
theorem mm_max2 {k : IntKind} {a b : Int} : mmV true (.int k a) [.int k b] = val (.int k (max a b)) := by
  show valO (some (.int k (if b > a then b else a))) = _
  rw [show (if b > a then b else a) = max a b by split <;> omega]; rfl
theorem mm_max3 {k : IntKind} {a b c : Int} : mmV true (.int k a) [.int k b, .int k c] = val (.int k (max (max a b) c)) := by
  show valO (some (.int k (if c > (if b > a then b else a) then c else (if b > a then b else a)))) = _
  rw [show (if b > a then b else a) = max a b by split <;> omega, show (if c > max a b then c else max a b) = max (max a b) c by split <;> omega]; rfl
theorem fl_int {k : IntKind} {n : Int} : flat (.int k n) = true := rfl
theorem fl_bool {b : Bool} : flat (.bool b) = true := rfl
theorem wuac {s : ByteArray} : flat (.string s) = true := rfl
theorem wasb {k : FloatKind} {a b : Nat} : flat (.complex k a b) = true := rfl
theorem fl_FL {n : Nat} {cs : List Value} : flat (FL n cs) = false := rfl
theorem fl_FO {t n : Nat} {cs : List Value} : flat (FO t n cs) = false := rfl
theorem fl_ptr {a : Addr} : flat (.pointer (some a)) = false := rfl
theorem fl_map {r : Nat} : flat (.map (some r)) = false := rfl
theorem fl_agg {l : List Value} : flat (.agg ⟨l⟩) = wuk l := rfl
theorem fl_tuple {l : List Value} : flat (.tuple ⟨l⟩) = wuk l := rfl
theorem wvac : wuk [] = true := rfl
theorem wvo {v : Value} {l : List Value} : wuk (v :: l) = (flat v && wuk l) := rfl
theorem wbsb {a b : Nat} {r : Frs} : wxm ((a, b) :: r) = a :: wxm r := rfl
theorem wwac : wxm [] = [] := rfl
theorem wcsb {H : AH} {s : Option (List Value × Frs)} : wfeb rec f H s none = wfv rec f H s := rfl
theorem bq_X {cs ds : List Value} {t z : Nat} {pf : Bool} : weeb (some (X cs t z pf)) (some (X ds t z pf)) = beqL cs ds := by
  show (beqL cs ds && (Nat.beq t t && (Nat.beq 1 1 && (([] : List Nat) == [] && (Nat.beq 0 0 && (Nat.beq z z && (false == false && pf == pf))))))) = _
  simp
theorem bq_map {a b : List (Value × Value)} : weeb (some (.map a)) (some (.map b)) = beqP a b := rfl
theorem bq_tok {a b c : Nat} : weeb (some (.tok a b c)) (some (.tok a b c)) = true := by
  show (Nat.beq a a && (Nat.beq b b && Nat.beq c c)) = true
  simp
theorem wbw : beqL [] [] = true := rfl
theorem wkh {a b : Value} {r q : List Value} : beqL (a :: r) (b :: q) = (beqV a b && beqL r q) := rfl
theorem bqP_nil : beqP [] [] = true := rfl
theorem bqP_cons {a b : Value × Value} {r q : List (Value × Value)} : beqP (a :: r) (b :: q) = (beqV a.1 b.1 && (beqV a.2 b.2 && beqP r q)) := rfl
theorem wur {k : IntKind} {n : Int} : beqV (.int k n) (.int k n) = true := by
  show (sameKind k k && eqF n n) = true
  have h1 : sameKind k k = true := by cases k <;> rfl
  have h2 : eqF n n = true := by rw [widb]; simp
  rw [h1, h2]; rfl
theorem wxac {b : Bool} : beqV (.bool b) (.bool b) = true := by cases b <;> rfl
theorem bq_str {l : List UInt8} : beqV (str l) (str l) = true := by
  show (l == l) = true
  simp
theorem bq_ptr {i o : Nat} : beqV (.pointer (some ⟨i, o, none⟩)) (.pointer (some ⟨i, o, none⟩)) = true := by
  show (Nat.beq i i && (Nat.beq o o && ((none : Option Nat) == none))) = true
  simp
theorem bq_nilP : beqV (.pointer none) (.pointer none) = true := rfl
theorem bq_nilS {n c : Nat} : beqV (.slice none n c) (.slice none n c) = true := by
  show (Nat.beq n n && Nat.beq c c) = true
  simp
theorem wyac {r : Option Nat} : beqV (.map r) (.map r) = true := by
  show (r == r) = true
  simp
theorem wymb (n : Nat) : (Fn.yield n == Fn.yield n) = true := by
  show decide _ = true <;> simp
theorem bq_FL {n : Nat} {cs : List Value} : beqV (FL n cs) (FL n cs) = beqL cs cs := by
  show (Fn.yield n == Fn.yield n && (beqL cs cs && beqL [] [])) = _
  rw [wymb, wbw]; simp
theorem bq_FO {t n : Nat} {cs : List Value} : beqV (FO t n cs) (FO t n cs) = beqL cs cs := by
  show (Fn.yield n == Fn.yield n && (beqL cs cs && beqL [.map (some t)] [.map (some t)])) = _
  rw [wymb, wkh, wyac, wbw]; simp
theorem wcz {a b : List Value} (h1 : beqL a a = true) (h2 : beqL b b = true) : beqL (a ++ b) (a ++ b) = true := by
  induction a with
  | nil => exact h2
  | cons v r ih =>
    rw [wkh, Bool.and_eq_true] at h1
    rw [List.cons_append, wkh, h1.1, ih h1.2]; rfl
theorem wxbb {α : Type} {enc : α → List Value} (h : ∀ a, beqL (enc a) (enc a) = true) (l : List α) : beqL (l.flatMap enc) (l.flatMap enc) = true := by
  induction l with
  | nil => rfl
  | cons a l ih => rw [List.flatMap_cons]; exact wcz (h a) ih
theorem chg_same {h : List ABlk} (hh : h.length ≤ 1099511627774) {L : List Nat} {fr : Frs} (hL : (L.all fun id => weeb h[id]? h[id]?) = true) : chg h h L fr = wxm fr := by
  unfold chg changed
  rw [List.filter_eq_nil_iff.2 (fun id hid => by
    rw [wvh h hh]
    simp [List.all_eq_true.1 hL id hid])]
  rfl
inductive AccLe : List Ti → List Ti → Prop
  | nil : AccLe [] []
  | same {x : Ti} {a b : List Ti} (h : AccLe a b) : AccLe (x :: a) (x :: b)
  | chg {i n m : Nat} {h h' : List ABlk} {L : List Nat} {fr : Frs} {a b : List Ti} (t : AccLe a b) : AccLe (⟨i, [], some (chg h h' L fr, n, m)⟩ :: a) (⟨i, [], some (L ++ wxm fr, n, m)⟩ :: b)
def TiLe (x y : Ti) : Prop := x.i = y.i ∧ x.rd = y.rd ∧ (x.eff = y.eff ∨ ∃ w w' n m, x.eff = some (w, n, m) ∧ y.eff = some (w', n, m) ∧ ∀ id ∈ w, id ∈ w')
inductive TiL : List Ti → List Ti → Prop
  | nil : TiL [] []
  | cons {x y : Ti} {a b : List Ti} (h : TiLe x y) (t : TiL a b) : TiL (x :: a) (y :: b)
theorem chg_sub {h h' : List ABlk} {L : List Nat} {fr : Frs} : ∀ id ∈ chg h h' L fr, id ∈ L ++ wxm fr := by
  intro id hid
  simp only [chg, changed, List.mem_append, List.mem_filter] at hid ⊢
  rcases hid with h | h
  · exact .inl h.1
  · exact .inr h
theorem AccLe.rel {a b : List Ti} (h : AccLe a b) : TiL a b := by
  induction h with
  | nil => exact .nil
  | same _ ih => exact .cons ⟨rfl, rfl, .inl rfl⟩ ih
  | chg _ ih => exact .cons ⟨rfl, rfl, .inr ⟨_, _, _, _, rfl, rfl, chg_sub⟩⟩ ih
theorem wdsb {w w' : List Nat} {n m id : Nat} (hs : ∀ i ∈ w, i ∈ w') (h : wiy (w', n, m) id = true) : wiy (w, n, m) id = true := by
  unfold wiy at h ⊢
  simp only [Bool.and_eq_true, Bool.not_eq_true'] at h ⊢
  refine ⟨?_, h.2⟩
  cases hq : w.contains id with
  | false => rfl
  | true =>
    have := hs id (by simpa using hq)
    have h2 : w'.contains id = true := by simpa using this
    rw [h2] at h; cases h.1
theorem sep_mono {b : Array Nat} {x x' y y' : Ti} (hx : TiLe x x') (hy : TiLe y y') (h : sep2 b x' y' = true) : sep2 b x y = true := by
  obtain ⟨i1, r1, e1⟩ := hx
  obtain ⟨i2, r2, e2⟩ := hy
  unfold sep2 at h ⊢
  rw [i1, i2, r1]
  have en : x.eff = none ↔ x'.eff = none := by
    rcases e1 with e | ⟨w, w', n, m, e, e', _⟩
    · rw [e]
    · rw [e, e']; simp
  cases hx : x.eff with
  | some p => rfl
  | none =>
    rw [en.1 hx] at h
    rcases e2 with e | ⟨w, w', n, m, e, e', hs⟩
    · rw [e]; exact h
    · rw [e]
      rw [e'] at h
      simp only [Bool.or_eq_true] at h ⊢
      rcases h with h | h | h
      · exact .inl h
      · exact .inr (.inl h)
      · exact .inr (.inr (by rw [List.all_eq_true] at h ⊢; exact fun id hid => wdsb hs (h id hid)))
theorem wesb {b : Array Nat} : ∀ {a a' : List Ti}, TiL a a' → wah b a' = true → wah b a = true := by
  intro a a' h
  induction h with
  | nil => intro _; rfl
  | @cons x y l l' hx hl ih =>
    intro hc
    simp only [wah, Bool.and_eq_true] at hc ⊢
    refine ⟨?_, ih hc.2⟩
    obtain ⟨i1, r1, e1⟩ := hx
    have hs : x.eff.isSome = y.eff.isSome := by
      rcases e1 with e | ⟨w, w', n, m, e, e', _⟩
      · rw [e]
      · rw [e, e']; rfl
    have h1 := hc.1
    cases hx : x.eff with
    | none => rfl
    | some p =>
      cases hy : y.eff with
      | none => rw [hx, hy] at hs; cases hs
      | some q =>
        rw [hy] at h1
        simp only at h1 ⊢
        clear ih hc hs hx hy e1
        induction hl with
        | nil => rfl
        | @cons u v l l' hu _ ih =>
          rw [List.all_cons, Bool.and_eq_true] at h1 ⊢
          refine ⟨?_, ih h1.2⟩
          have h2 := h1.1
          obtain ⟨j1, _, f1⟩ := hu
          rcases f1 with f | ⟨w, w', n, m, f, f', _⟩
          · rw [f, i1, j1]; exact h2
          · rw [f, i1, j1]; rw [f'] at h2; exact h2
theorem wnkb {b : Array Nat} {a a' : List Ti} (h : TiL a a') (hs : wwj b a' = true) : wwj b a = true := by
  have get : ∀ {l l' : List Ti}, TiL l l' → ∀ x ∈ l, ∃ y ∈ l', TiLe x y := by
    intro l l' h
    induction h with
    | nil => intro x hx; cases hx
    | @cons u v l l' hu _ ih =>
      intro x hx
      rcases List.mem_cons.1 hx with rfl | hx
      · exact ⟨v, List.mem_cons_self .., hu⟩
      · obtain ⟨y, h1, h2⟩ := ih x hx
        exact ⟨y, List.mem_cons_of_mem _ h1, h2⟩
  unfold wwj at hs ⊢
  rw [List.all_eq_true] at hs ⊢
  intro x hx
  rw [List.all_eq_true]
  intro y hy
  obtain ⟨x', hx', lx⟩ := get h x hx
  obtain ⟨y', hy', ly⟩ := get h y hy
  exact sep_mono lx ly (List.all_eq_true.1 (hs x' hx') y' hy')
theorem wfsb {a a' : List Ti} (h : TiL a a') : TiL a.reverse a'.reverse := by
  have key : ∀ {l l' : List Ti}, TiL l l' → ∀ {r r' : List Ti}, TiL r r' → TiL (l.reverseAux r) (l'.reverseAux r') := by
    intro l l' h
    induction h with
    | nil => intro r r' hr; exact hr
    | cons hu _ ih => intro r r' hr; exact ih (.cons hu hr)
  exact key h .nil
theorem opsK_did {v : Value} {nb : Option ABlk} {eff : Bool} {H : AH} {wr : List Nat} {dst : Option Tmp} {e : Env} {K : KR R} : opsK (.did v nb eff H wr) dst e K = K (e.put dst v) H := rfl
theorem wzac {cs : wnc} {b : Array Nat} {K : KR R} {d : Option Tmp} {ri : RI} {l : List RO} {k : Nat} {acc : List Ti} {e : Env} {h h' : List ABlk} {v : Value} {wr : List Nat} : opsDC P cs b K d ri l k acc e (HP h) (.did v none true (HP h') wr) = wke P cs b K l (k + 1) (⟨k, [], some (wr, h.length, h'.length)⟩ :: acc) (e.put d v) (HP h') := by
  show wke P cs b K l (k + 1) (⟨k, [], some (wr, (HP h).n, (HP h').n)⟩ :: acc) (e.put d v) (HP h') = _
  rw [HP_n, HP_n]
end
theorem wgsb {τ : Nm} {h g : List ABlk} : whg τ h [] g = h ++ g.map (wan τ) := by simp only [whg]
theorem wokb {τ : Nm} {h : List ABlk} {id : Nat} {r : List Nat} {b : ABlk} {g : List ABlk} : whg τ h (id :: r) (b :: g) = whg τ (h.set id (wan τ b)) r g := by simp only [whg]
theorem bk_at {n : Nat} {L : List Nat} {ix s : Nat} : bk n L ix s = bif decide (ix < L.length) then (getN L ix, s) else (n + (ix - L.length), s) := by
  show (bif Nat.blt ix L.length then _ else _) = _
  rw [nblt]
theorem getN_0 {a : Nat} {r : List Nat} : getN (a :: r) 0 = a := rfl
theorem getN_s {a k : Nat} {r : List Nat} : getN (a :: r) (k + 1) = getN r k := rfl
theorem wabc {f : FuncId} {p : Nat} {rec : Rec} {a b : RC} {K : KC R} {e : Env} {H : AH} {q : Prop} [Decidable q] {r : Option R} (h1 : q → wxf P cfg f p rec a K e H = r) (h2 : ¬ q → wxf P cfg f p rec b K e H = r) : condC P cfg f p rec a b K e H (.bool (decide q)) = r := by
  by_cases hq : q
  · rw [decide_eq_true hq]; exact h1 hq
  · rw [decide_eq_false hq]; exact h2 hq
theorem gd_ok {cs : wnc} {K : KR R} {d : Option Tmp} {l : List RO} {e : Env} {H : AH} {wr : List Nat} {want : Bool} {x : ARes} {q : Bool} {r : Option R} (h1 : q = want → opsI P cs K d l e H wr x = r) (h2 : q = !want → opsI P cs K d l e H wr (val undef) = r) : wlfb P cs K d l e H wr want x (.bool q) = r := by
  rw [wnqb]
  by_cases hq : q = want
  · rw [if_pos hq]; exact h1 hq
  · rw [if_neg hq]; exact h2 (by cases q <;> cases want <;> first | rfl | exact absurd rfl hq)
theorem gdD_ok {cs : wnc} {b : Array Nat} {K : KR R} {d : Option Tmp} {ri : RI} {l : List RO} {k : Nat} {acc : List Ti} {e : Env} {H : AH} {want q : Bool} {r : Option R} (h1 : q = want → wke P cs b K (⟨d, none, ri⟩ :: l) k acc e H = r) (h2 : q = !want → wke P cs b K l (k + 1) acc (e.put d undef) H = r) : wqqb P cs b K d ri l k acc e H (wvp want (.bool q)) = r := by
  by_cases hq : q = want
  · subst hq
    have : wvp q (.bool q) = some true := by cases q <;> rfl
    rw [this, wumb]; exact h1 rfl
  · have hq2 : q = !want := by cases q <;> cases want <;> first | rfl | exact absurd rfl hq
    have : wvp want (.bool q) = some false := by rw [hq2]; cases want <;> rfl
    rw [this, waz]; exact h2 hq2
theorem gd_skip {cs : wnc} {K : KR R} {d : Option Tmp} {l : List RO} {e : Env} {H : AH} {wr : List Nat} {x : ARes} : wlfb P cs K d l e H wr true x (.bool false) = opsR P cs K l (e.put d undef) H := rfl
theorem gd_skip' {cs : wnc} {K : KR R} {d : Option Tmp} {l : List RO} {e : Env} {H : AH} {wr : List Nat} {x : ARes} : wlfb P cs K d l e H wr false x (.bool true) = opsR P cs K l (e.put d undef) H := rfl
theorem gd_do {cs : wnc} {K : KR R} {d : Option Tmp} {l : List RO} {e : Env} {H : AH} {wr : List Nat} {x : ARes} : wlfb P cs K d l e H wr true x (.bool true) = opsI P cs K d l e H wr x := rfl
theorem gd_do' {cs : wnc} {K : KR R} {d : Option Tmp} {l : List RO} {e : Env} {H : AH} {wr : List Nat} {x : ARes} : wlfb P cs K d l e H wr false x (.bool false) = opsI P cs K d l e H wr x := rfl
theorem drawn_ok {b : Array Nat} {acc : List Ti} {K : KR R} {e : Env} {H : AH} {r : Option R} (h : (wah b acc.reverse && wwj b acc) = true) (k : K e H = r) : wok b acc K e H = r := by rw [draw_end h]; exact k
theorem wdz {b : Array Nat} {acc acc' : List Ti} {K : KR R} {e : Env} {H : AH} {r : Option R} (hl : AccLe acc acc') (h : (wah b acc'.reverse && wwj b acc') = true) (k : K e H = r) : wok b acc K e H = r := by
  simp only [Bool.and_eq_true] at h
  refine drawn_ok ?_ k
  rw [wesb (wfsb hl.rel) h.1, wnkb hl.rel h.2]
  rfl
abbrev FzL (l : List Value) : Prop := wvd l = [] ∧ wac l = true ∧ (∀ m, whd m l = l) ∧ (∀ (P : Program) (H : AH) (d : Nat), wkg P H (d + 1) l = some (l, [])) ∧ l.all oneCell = true ∧ nfL l = l ∧ wdp l = [] ∧ wye l = true
theorem fzl {l : List Value} (h : wye l = true) : FzL l :=
  ⟨wtqb h, wxi h, fun _ => wbz h, fun _ _ _ => wvqb h, wwn h, wtbb h, wuqb h, h⟩
theorem wzmb {f : FuncId} {p : Nat} {rec : Rec} {a b : RC} {K : KC R} {e : Env} {H : AH} {q : Bool} {r : Option R} (h1 : q = true → wxf P cfg f p rec a K e H = r) (h2 : q = false → wxf P cfg f p rec b K e H = r) : condC P cfg f p rec a b K e H (.bool q) = r := by
  cases q with
  | true => exact h1 rfl
  | false => exact h2 rfl
end
end Go.Den
namespace Go.Proofs.Ytdbhfmdndiphcaa
open Go.Den
noncomputable def wbk : RF := ⟨24, (.seq (.ops [⟨(some 6), none, (.ins (.mv (.const (.int .i64 0))))⟩]) (.seq (.ops [⟨(some 7), none, (.ins (.mv (.tmp 0)))⟩, ⟨(some 8), none, (.ins (.mv (.tmp 2)))⟩, ⟨(some 9), none, (.ins (.mv (.tmp 1)))⟩, ⟨(some 10), none, (.int2 .sub .i64 (.tmp 8) (.tmp 9))⟩, ⟨(some 11), none, (.int2 .add .i64 (.tmp 10) (.const (.int .i64 1)))⟩, ⟨(some 12), none, (.int2 .rem .i64 (.tmp 7) (.tmp 11))⟩, ⟨(some 0), none, (.ins (.mv (.tmp 12)))⟩]) (.seq (.seq (.ops [⟨(some 13), none, (.ins (.mv (.tmp 0)))⟩, ⟨(some 14), none, (.int2 .lss .i64 (.tmp 13) (.const (.int .i64 0)))⟩]) (.cond (.tmp 14) (.ops [⟨(some 15), none, (.ins (.mv (.tmp 0)))⟩, ⟨(some 16), none, (.ins (.mv (.tmp 2)))⟩, ⟨(some 17), none, (.int2 .add .i64 (.tmp 15) (.tmp 16))⟩, ⟨(some 18), none, (.ins (.mv (.tmp 1)))⟩, ⟨(some 19), none, (.int2 .sub .i64 (.tmp 17) (.tmp 18))⟩, ⟨(some 20), none, (.int2 .add .i64 (.tmp 19) (.const (.int .i64 1)))⟩, ⟨(some 0), none, (.ins (.mv (.tmp 20)))⟩]) .skip)) (.seq (.ops [⟨(some 21), none, (.ins (.mv (.tmp 1)))⟩, ⟨(some 22), none, (.ins (.mv (.tmp 0)))⟩, ⟨(some 23), none, (.int2 .add .i64 (.tmp 21) (.tmp 22))⟩, ⟨(some 6), none, (.ins (.mv (.tmp 23)))⟩]) .ret)))), [(.tmp 6)]⟩
theorem wbn : trF Try.prog 15 = some wbk := by kernel_rfl
noncomputable def wfm (i : Nat) : Code := lp Try.prog 30 i
noncomputable def wgm : RC := (.seq (.ops [⟨(some 4), none, (.int2 .lss .i64 (.tmp 3) (.const (.int .i64 4)))⟩]) (.seq (.cond (.tmp 4) .skip (.exit 0)) (.seq (.block 1 (.seq (.ops [⟨(some 5), none, (.ins (.mv (.tmp 3)))⟩, ⟨(some 2), none, (.ins (.mv (.tmp 5)))⟩]) (.ops [⟨(some 6), none, (.ins (.mv (.tmp 2)))⟩, ⟨(some 7), none, (.ins (.build [(.int .i64 0), (.int .i64 0)] [(0, (1, (.const (.int .i64 (-1))))), (1, (1, (.const (.int .i64 (-1)))))]))⟩, ⟨(some 8), none, (.ins (.iaddrA 4 2 (.tmp 1) (.tmp 6)))⟩, ⟨none, none, (.ins (.store 2 (.tmp 8) (.tmp 7)))⟩]))) (.ops [⟨(some 9), none, (.int2 .add .i64 (.tmp 3) (.const (.int .i64 1)))⟩, ⟨(some 3), none, (.ins (.mv (.tmp 9)))⟩]))))
theorem wqm : trC Try.prog (wfm 0) = wgm := by kernel_rfl
noncomputable def wcw : RF := ⟨11, (.seq (.ops [⟨(some 0), none, (.ins (.new [(.int .i64 0), (.int .i64 0), (.int .i64 0), (.int .i64 0), (.int .i64 0), (.int .i64 0), (.int .i64 0), (.int .i64 0)] 55))⟩]) (.seq (.ops [⟨(some 1), none, (.ins (.new [(.int .i64 0), (.int .i64 0), (.int .i64 0), (.int .i64 0), (.int .i64 0), (.int .i64 0), (.int .i64 0), (.int .i64 0)] 55))⟩]) (.seq (.seq (.ops [⟨(some 3), none, (.ins (.mv (.const (.int .i64 0))))⟩]) (.block 0 (.loop (wfm 0)))) (.seq (.ops [⟨(some 10), none, (.ins (.loadN 8 (.tmp 1)))⟩, ⟨none, none, (.ins (.store 8 (.tmp 0) (.tmp 10)))⟩]) .ret)))), [(.cellN 0 8)]⟩
theorem wnx : trF Try.prog 30 = some wcw := by kernel_rfl
noncomputable def wze (i : Nat) : Code := lp Try.prog 28 i
noncomputable def wng : RC := (.seq (.ops [⟨(some 46), none, (.int2 .lss .i64 (.tmp 45) (.tmp 44))⟩]) (.seq (.cond (.tmp 46) .skip (.exit 2)) (.seq (.block 3 (.seq (.ops [⟨(some 47), none, (.ins (.iaddrS 9 (.tmp 43) (.tmp 45)))⟩, ⟨(some 48), none, (.ins (.loadN 9 (.tmp 47)))⟩, ⟨(some 12), none, (.ins (.new [(.int .i64 0), (.int .i64 0), (.int .i64 0), (.int .i64 0), (.int .i64 0), (.int .i64 0), (.int .i64 0), (.int .i64 0), (.int .i64 0)] 113))⟩, ⟨none, none, (.ins (.store 9 (.tmp 12) (.tmp 48)))⟩]) (.seq (.ops [⟨(some 49), none, (.ins (.mv (.tmp 10)))⟩, ⟨(some 50), none, (.un .not (.tmp 49))⟩, ⟨(some 51), none, (.ins (.mv (.tmp 50)))⟩, ⟨(some 52), (some ((some 51), false)), (.ins (.faddr 0 (.tmp 12)))⟩, ⟨(some 53), (some ((some 51), false)), (.ins (.load1 (.tmp 52)))⟩, ⟨(some 54), (some ((some 51), false)), (.ins (.faddr 0 (.tmp 9)))⟩, ⟨(some 55), (some ((some 51), false)), (.ins (.load1 (.tmp 54)))⟩, ⟨(some 56), (some ((some 51), false)), (.int2 .gtr .i64 (.tmp 53) (.tmp 55))⟩, ⟨(some 57), none, (.ins (.pick (.tmp 51) (.const (.bool true)) (.tmp 56)))⟩]) (.cond (.tmp 57) (.ops [⟨(some 58), none, (.ins (.loadN 9 (.tmp 12)))⟩, ⟨none, none, (.ins (.store 9 (.tmp 9) (.tmp 58)))⟩, ⟨(some 10), none, (.ins (.mv (.const (.bool true))))⟩]) .skip)))) (.ops [⟨(some 59), none, (.int2 .add .i64 (.tmp 45) (.const (.int .i64 1)))⟩, ⟨(some 45), none, (.ins (.mv (.tmp 59)))⟩]))))
theorem wig : trC Try.prog (wze 1) = wng := by kernel_rfl
noncomputable def wog : RC := (.seq (.seq (.ops [⟨(some 33), none, (.ins (.mv (.tmp 8)))⟩, ⟨(some 34), none, (.ins (.mv (.tmp 1)))⟩, ⟨(some 35), none, (.slen (.tmp 34))⟩, ⟨(some 36), none, (.int2 .leq .i64 (.tmp 33) (.tmp 35))⟩]) (.cond (.tmp 36) .skip (.exit 0))) (.seq (.block 1 (.seq (.ops [⟨(some 39), none, (.ins (.build [(.int .i64 0), (.int .i64 0), (.int .i64 0), (.int .i64 0), (.int .i64 0), (.int .i64 0), (.int .i64 0), (.int .i64 0), (.int .i64 0)] []))⟩, ⟨(some 9), none, (.ins (.new [(.int .i64 0), (.int .i64 0), (.int .i64 0), (.int .i64 0), (.int .i64 0), (.int .i64 0), (.int .i64 0), (.int .i64 0), (.int .i64 0)] 113))⟩, ⟨none, none, (.ins (.store 9 (.tmp 9) (.tmp 39)))⟩, ⟨(some 10), none, (.ins (.mv (.const (.bool false))))⟩]) (.seq (.seq (.ops [⟨(some 40), none, (.ins (.loadN 9 (.tmp 3)))⟩, ⟨(some 41), none, (.ins (.mv (.tmp 1)))⟩, ⟨(some 42), none, (.ins (.mv (.tmp 8)))⟩, ⟨(some 43), none, (.ins (.call 40 [(.tmp 40), (.tmp 41), (.const (.bool true)), (.tmp 42)]))⟩, ⟨(some 44), none, (.lenS (.tmp 43))⟩, ⟨(some 45), none, (.ins (.mv (.const (.int .i64 0))))⟩]) (.block 2 (.loop (wze 1)))) (.seq (.ops [⟨(some 60), none, (.ins (.mv (.tmp 10)))⟩]) (.cond (.tmp 60) (.seq (.ops [⟨(some 61), none, (.ins (.mv (.tmp 8)))⟩, ⟨(some 62), none, (.ins (.faddr 0 (.tmp 9)))⟩, ⟨(some 63), none, (.ins (.load1 (.tmp 62)))⟩, ⟨(some 64), none, (.ins (.build [(.int .i64 0), (.int .i64 0)] [(0, (1, (.tmp 61))), (1, (1, (.tmp 63)))]))⟩, ⟨(some 65), none, (.ins (.faddr 1 (.tmp 9)))⟩, ⟨(some 66), none, (.ins (.iaddrA 4 2 (.tmp 65) (.const (.int .i64 0))))⟩, ⟨none, none, (.ins (.store 2 (.tmp 66) (.tmp 64)))⟩]) (.seq (.ops [⟨(some 67), none, (.ins (.faddr 1 (.tmp 9)))⟩, ⟨(some 68), none, (.ins (.loadN 8 (.tmp 67)))⟩, ⟨none, none, (.ins (.store 8 (.tmp 6) (.tmp 68)))⟩, ⟨(some 7), none, (.ins (.mv (.const (.bool true))))⟩]) .ret)) .skip))))) (.ops [⟨(some 37), none, (.ins (.mv (.tmp 8)))⟩, ⟨(some 38), none, (.int2 .add .i64 (.tmp 37) (.const (.int .i64 1)))⟩, ⟨(some 8), none, (.ins (.mv (.tmp 38)))⟩])))
theorem wjg : trC Try.prog (wze 0) = wog := by kernel_rfl
noncomputable def wvr : RF := ⟨70, (.seq (.ops [⟨(some 3), none, (.ins (.box 47 (.tmp 0)))⟩, ⟨(some 6), none, (.ins (.new [(.int .i64 0), (.int .i64 0), (.int .i64 0), (.int .i64 0), (.int .i64 0), (.int .i64 0), (.int .i64 0), (.int .i64 0)] 55))⟩, ⟨(some 7), none, (.ins (.mv (.const (.bool false))))⟩]) (.seq (.seq (.ops [⟨(some 13), none, (.ins (.mv (.tmp 2)))⟩, ⟨(some 14), none, (.int2 .lss .i64 (.tmp 13) (.const (.int .i64 0)))⟩, ⟨(some 15), none, (.ins (.mv (.tmp 14)))⟩, ⟨(some 16), (some ((some 15), false)), (.ins (.mv (.tmp 2)))⟩, ⟨(some 17), (some ((some 15), false)), (.ins (.mv (.tmp 1)))⟩, ⟨(some 18), (some ((some 15), false)), (.slen (.tmp 17))⟩, ⟨(some 19), (some ((some 15), false)), (.int2 .gtr .i64 (.tmp 16) (.tmp 18))⟩, ⟨(some 20), none, (.ins (.pick (.tmp 15) (.const (.bool true)) (.tmp 19)))⟩, ⟨(some 21), none, (.ins (.mv (.tmp 20)))⟩, ⟨(some 22), (some ((some 21), false)), (.ins (.mv (.tmp 1)))⟩, ⟨(some 23), (some ((some 21), false)), (.slen (.tmp 22))⟩, ⟨(some 24), (some ((some 21), false)), (.int2 .gtr .i64 (.tmp 23) (.const (.int .i64 60)))⟩, ⟨(some 25), none, (.ins (.pick (.tmp 21) (.const (.bool true)) (.tmp 24)))⟩, ⟨(some 26), none, (.ins (.mv (.tmp 25)))⟩, ⟨(some 27), (some ((some 26), false)), (.ins (.loadN 9 (.tmp 3)))⟩, ⟨(some 28), (some ((some 26), false)), (.ins (.call 58 [(.tmp 27), (.const (.bool true))]))⟩, ⟨(some 29), (some ((some 26), false)), (.un .not (.tmp 28))⟩, ⟨(some 30), none, (.ins (.pick (.tmp 26) (.const (.bool true)) (.tmp 29)))⟩]) (.cond (.tmp 30) (.seq (.ops [⟨(some 31), none, (.ins (.call 30 []))⟩, ⟨none, none, (.ins (.store 8 (.tmp 6) (.tmp 31)))⟩, ⟨(some 7), none, (.ins (.mv (.const (.bool false))))⟩]) .ret) .skip)) (.seq (.seq (.ops [⟨(some 32), none, (.ins (.mv (.tmp 2)))⟩, ⟨(some 8), none, (.ins (.mv (.tmp 32)))⟩]) (.block 0 (.loop (wze 0)))) (.seq (.ops [⟨(some 69), none, (.ins (.call 30 []))⟩, ⟨none, none, (.ins (.store 8 (.tmp 6) (.tmp 69)))⟩, ⟨(some 7), none, (.ins (.mv (.const (.bool false))))⟩]) .ret)))), [(.cellN 6 8), (.tmp 7)]⟩
theorem wot : trF Try.prog 28 = some wvr := by kernel_rfl
noncomputable def wck (i : Nat) : Code := lp Try.prog 27 i
noncomputable def wec : RC := (.seq (.seq (.ops [⟨(some 11), none, (.ins (.mv (.tmp 7)))⟩, ⟨(some 12), none, (.ins (.mv (.tmp 1)))⟩, ⟨(some 13), none, (.slen (.tmp 12))⟩, ⟨(some 14), none, (.int2 .leq .i64 (.tmp 11) (.tmp 13))⟩]) (.cond (.tmp 14) .skip (.exit 0))) (.block 1 (.seq (.ops [⟨(some 16), none, (.ins (.loadN 9 (.tmp 2)))⟩, ⟨(some 17), none, (.ins (.mv (.tmp 1)))⟩, ⟨(some 18), none, (.ins (.mv (.tmp 7)))⟩, ⟨(some 19), none, (.ins (.call 28 [(.tmp 16), (.tmp 17), (.tmp 18)]))⟩, ⟨(some 15), none, (.ins (.mv (.tmp 19)))⟩, ⟨(some 20), none, (.ins (.ext (.tmp 15) 0))⟩, ⟨(some 21), none, (.ins (.ext (.tmp 15) 1))⟩, ⟨(some 8), none, (.ins (.new [(.int .i64 0), (.int .i64 0), (.int .i64 0), (.int .i64 0), (.int .i64 0), (.int .i64 0), (.int .i64 0), (.int .i64 0)] 55))⟩, ⟨none, none, (.ins (.store 8 (.tmp 8) (.tmp 20)))⟩, ⟨(some 9), none, (.ins (.mv (.tmp 21)))⟩]) (.seq (.seq (.ops [⟨(some 22), none, (.ins (.mv (.tmp 9)))⟩, ⟨(some 23), none, (.un .not (.tmp 22))⟩]) (.cond (.tmp 23) (.seq (.ops [⟨(some 24), none, (.ins (.mv (.tmp 5)))⟩, ⟨(some 4), none, (.ins (.mv (.tmp 24)))⟩]) .ret) .skip)) (.seq (.ops [⟨(some 25), none, (.ins (.iaddrA 4 2 (.tmp 8) (.const (.int .i64 0))))⟩, ⟨(some 26), none, (.ins (.loadN 2 (.tmp 25)))⟩, ⟨(some 10), none, (.ins (.new [(.int .i64 0), (.int .i64 0)] 53))⟩, ⟨none, none, (.ins (.store 2 (.tmp 10) (.tmp 26)))⟩]) (.seq (.ops [⟨(some 27), none, (.ins (.faddr 1 (.tmp 10)))⟩, ⟨(some 28), none, (.ins (.load1 (.tmp 27)))⟩, ⟨(some 7), none, (.ins (.mv (.tmp 28)))⟩]) (.seq (.seq (.ops [⟨(some 29), none, (.ins (.faddr 0 (.tmp 10)))⟩, ⟨(some 30), none, (.ins (.load1 (.tmp 29)))⟩, ⟨(some 31), none, (.ins (.faddr 1 (.tmp 10)))⟩, ⟨(some 32), none, (.ins (.load1 (.tmp 31)))⟩, ⟨(some 33), none, (.int2 .eql .i64 (.tmp 30) (.tmp 32))⟩]) (.cond (.tmp 33) (.seq (.ops [⟨(some 34), none, (.ins (.mv (.tmp 7)))⟩, ⟨(some 35), none, (.int2 .add .i64 (.tmp 34) (.const (.int .i64 1)))⟩, ⟨(some 7), none, (.ins (.mv (.tmp 35)))⟩]) (.seq (.ops [⟨(some 36), none, (.ins (.faddr 1 (.tmp 10)))⟩, ⟨(some 37), none, (.ins (.load1 (.tmp 36)))⟩, ⟨(some 38), none, (.ins (.mv (.tmp 6)))⟩, ⟨(some 39), none, (.int2 .eql .i64 (.tmp 37) (.tmp 38))⟩]) (.cond (.tmp 39) (.exit 1) .skip))) .skip)) (.seq (.ops [⟨(some 40), none, (.ins (.mv (.tmp 5)))⟩, ⟨(some 41), none, (.ins (.loadN 8 (.tmp 8)))⟩, ⟨(some 42), none, (.ins (.bslice 55 1 [(.int .i64 0), (.int .i64 0), (.int .i64 0), (.int .i64 0), (.int .i64 0), (.int .i64 0), (.int .i64 0), (.int .i64 0)] [(0, (8, (.tmp 41)))]))⟩, ⟨(some 43), none, (.ins (.app 55 8 64 (.tmp 40) (.tmp 42)))⟩, ⟨(some 5), none, (.ins (.mv (.tmp 43)))⟩]) (.ops [⟨(some 44), none, (.ins (.faddr 1 (.tmp 10)))⟩, ⟨(some 45), none, (.ins (.load1 (.tmp 44)))⟩, ⟨(some 6), none, (.ins (.mv (.tmp 45)))⟩])))))))))
theorem wtb : trC Try.prog (wck 0) = wec := by kernel_rfl
noncomputable def wdw : RF := ⟨47, (.seq (.ops [⟨(some 2), none, (.ins (.box 47 (.tmp 0)))⟩, ⟨(some 4), none, (.ins (.mv (.const (.slice none 0 0))))⟩]) (.seq (.ops [⟨(some 5), none, (.ins (.mv (.const (.slice none 0 0))))⟩]) (.seq (.ops [⟨(some 6), none, (.ins (.mv (.const (.int .i64 (-1)))))⟩]) (.seq (.seq (.ops [⟨(some 7), none, (.ins (.mv (.const (.int .i64 0))))⟩]) (.block 0 (.loop (wck 0)))) (.seq (.ops [⟨(some 46), none, (.ins (.mv (.tmp 5)))⟩, ⟨(some 4), none, (.ins (.mv (.tmp 46)))⟩]) .ret))))), [(.tmp 4)]⟩
theorem wox : trF Try.prog 27 = some wdw := by kernel_rfl
noncomputable def wew : RF := ⟨14, (.seq (.ops [⟨(some 2), none, (.ins (.box 47 (.tmp 0)))⟩, ⟨(some 4), none, (.ins (.mv (.const (.bool false))))⟩]) (.seq (.ops [⟨(some 8), none, (.ins (.loadN 9 (.tmp 2)))⟩, ⟨(some 9), none, (.ins (.mv (.tmp 1)))⟩, ⟨(some 10), none, (.ins (.call 28 [(.tmp 8), (.tmp 9), (.const (.int .i64 0))]))⟩, ⟨(some 7), none, (.ins (.mv (.tmp 10)))⟩, ⟨(some 11), none, (.ins (.ext (.tmp 7) 0))⟩, ⟨(some 12), none, (.ins (.ext (.tmp 7) 1))⟩, ⟨(some 5), none, (.ins (.new [(.int .i64 0), (.int .i64 0), (.int .i64 0), (.int .i64 0), (.int .i64 0), (.int .i64 0), (.int .i64 0), (.int .i64 0)] 55))⟩, ⟨none, none, (.ins (.store 8 (.tmp 5) (.tmp 11)))⟩, ⟨(some 6), none, (.ins (.mv (.tmp 12)))⟩]) (.seq (.ops [⟨(some 13), none, (.ins (.mv (.tmp 6)))⟩, ⟨(some 4), none, (.ins (.mv (.tmp 13)))⟩]) .ret))), [(.tmp 4)]⟩
theorem wpx : trF Try.prog 36 = some wew := by kernel_rfl
noncomputable def wdc (i : Nat) : Code := lp Try.prog 63 i
noncomputable def waf : RC := (.seq (.ops [⟨(some 83), none, (.int2 .lss .i64 (.tmp 82) (.tmp 81))⟩]) (.seq (.cond (.tmp 83) .skip (.exit 1)) (.seq (.block 2 (.seq (.ops [⟨(some 84), none, (.ins (.iaddrS 9 (.tmp 80) (.tmp 82)))⟩, ⟨(some 85), none, (.ins (.loadN 9 (.tmp 84)))⟩, ⟨(some 10), none, (.ins (.new [(.int .i64 0), (.int .i64 0), (.int .i64 0), (.int .i64 0), (.int .i64 0), (.int .i64 0), (.int .i64 0), (.int .i64 0), (.int .i64 0)] 113))⟩, ⟨none, none, (.ins (.store 9 (.tmp 10) (.tmp 85)))⟩]) (.seq (.ops [⟨(some 86), none, (.ins (.faddr 3 (.tmp 4)))⟩, ⟨(some 87), none, (.ins (.load1 (.tmp 86)))⟩, ⟨(some 88), none, (.ins (.faddr 0 (.tmp 5)))⟩, ⟨(some 89), none, (.ins (.load1 (.tmp 88)))⟩, ⟨(some 90), none, (.ins (.faddr 0 (.tmp 10)))⟩, ⟨(some 91), none, (.ins (.load1 (.tmp 90)))⟩, ⟨(some 92), none, (.ins (.build [(.int .i64 0), (.int .i64 0)] [(0, (1, (.tmp 89))), (1, (1, (.tmp 91)))]))⟩, ⟨(some 93), none, (.ins (.faddr 1 (.tmp 10)))⟩, ⟨(some 94), none, (.ins (.iaddrA 4 2 (.tmp 93) (.tmp 87)))⟩, ⟨none, none, (.ins (.store 2 (.tmp 94) (.tmp 92)))⟩]) (.ops [⟨(some 95), none, (.ins (.mv (.tmp 8)))⟩, ⟨(some 96), none, (.ins (.loadN 9 (.tmp 10)))⟩, ⟨(some 97), none, (.ins (.bslice 113 1 [(.int .i64 0), (.int .i64 0), (.int .i64 0), (.int .i64 0), (.int .i64 0), (.int .i64 0), (.int .i64 0), (.int .i64 0), (.int .i64 0)] [(0, (9, (.tmp 96)))]))⟩, ⟨(some 98), none, (.ins (.call 86 [(.tmp 95), (.tmp 97)]))⟩])))) (.ops [⟨(some 99), none, (.int2 .add .i64 (.tmp 82) (.const (.int .i64 1)))⟩, ⟨(some 82), none, (.ins (.mv (.tmp 99)))⟩]))))
theorem wbf : trC Try.prog (wdc 0) = waf := by kernel_rfl
noncomputable def wzd : RC := (.seq (.ops [⟨(some 111), none, (.int2 .lss .i64 (.tmp 110) (.tmp 109))⟩]) (.seq (.cond (.tmp 111) .skip (.exit 3)) (.seq (.block 4 (.seq (.ops [⟨(some 112), none, (.ins (.iaddrS 9 (.tmp 108) (.tmp 110)))⟩, ⟨(some 113), none, (.ins (.loadN 9 (.tmp 112)))⟩, ⟨(some 13), none, (.ins (.new [(.int .i64 0), (.int .i64 0), (.int .i64 0), (.int .i64 0), (.int .u64 0), (.int .u64 0), (.int .u64 0), (.int .u64 0), (.slice none 0 0)] 47))⟩, ⟨none, none, (.ins (.store 9 (.tmp 13) (.tmp 113)))⟩]) (.ops [⟨(some 114), none, (.ins (.mv (.tmp 11)))⟩, ⟨(some 115), none, (.ins (.loadN 2 (.tmp 3)))⟩, ⟨(some 116), none, (.ins (.loadN 9 (.tmp 13)))⟩, ⟨(some 117), none, (.ins (.loadN 9 (.tmp 5)))⟩, ⟨(some 118), none, (.ins (.call 63 [(.tmp 115), (.tmp 116), (.tmp 117)]))⟩, ⟨(some 119), none, (.ins (.call 86 [(.tmp 114), (.tmp 118)]))⟩]))) (.ops [⟨(some 120), none, (.int2 .add .i64 (.tmp 110) (.const (.int .i64 1)))⟩, ⟨(some 110), none, (.ins (.mv (.tmp 120)))⟩]))))
theorem wxd : trC Try.prog (wdc 1) = wzd := by kernel_rfl
noncomputable def wcf : RC := (.seq (.ops [⟨(some 131), none, (.int2 .lss .i64 (.tmp 130) (.tmp 129))⟩]) (.seq (.cond (.tmp 131) .skip (.exit 5)) (.seq (.block 6 (.seq (.ops [⟨(some 132), none, (.ins (.iaddrS 9 (.tmp 128) (.tmp 130)))⟩, ⟨(some 133), none, (.ins (.loadN 9 (.tmp 132)))⟩, ⟨(some 15), none, (.ins (.new [(.int .i64 0), (.int .i64 0), (.int .i64 0), (.int .i64 0), (.int .u64 0), (.int .u64 0), (.int .u64 0), (.int .u64 0), (.slice none 0 0)] 47))⟩, ⟨none, none, (.ins (.store 9 (.tmp 15) (.tmp 133)))⟩]) (.ops [⟨(some 134), none, (.ins (.loadN 2 (.tmp 3)))⟩, ⟨(some 135), none, (.ins (.loadN 9 (.tmp 15)))⟩, ⟨(some 136), none, (.ins (.mv (.tmp 7)))⟩, ⟨(some 137), none, (.ins (.call 87 [(.tmp 134), (.tmp 135), (.tmp 136)]))⟩, ⟨(some 7), none, (.ins (.mv (.tmp 137)))⟩]))) (.ops [⟨(some 138), none, (.int2 .add .i64 (.tmp 130) (.const (.int .i64 1)))⟩, ⟨(some 130), none, (.ins (.mv (.tmp 138)))⟩]))))
theorem wdf : trC Try.prog (wdc 2) = wcf := by kernel_rfl
noncomputable def wrm : RF := ⟨158, (.seq (.ops [⟨(some 3), none, (.ins (.box 123 (.tmp 0)))⟩, ⟨(some 4), none, (.ins (.box 47 (.tmp 1)))⟩, ⟨(some 5), none, (.ins (.box 113 (.tmp 2)))⟩, ⟨(some 6), none, (.ins (.mv (.const (.slice none 0 0))))⟩]) (.seq (.ops [⟨(some 17), none, (.ins (.loadN 9 (.tmp 5)))⟩, ⟨(some 18), none, (.ins (.bslice 113 1 [(.int .i64 0), (.int .i64 0), (.int .i64 0), (.int .i64 0), (.int .i64 0), (.int .i64 0), (.int .i64 0), (.int .i64 0), (.int .i64 0)] [(0, (9, (.tmp 17)))]))⟩, ⟨(some 7), none, (.ins (.mv (.tmp 18)))⟩]) (.seq (.seq (.ops [⟨(some 19), none, (.ins (.faddr 0 (.tmp 4)))⟩, ⟨(some 20), none, (.ins (.load1 (.tmp 19)))⟩]) (.block 0 (.seq (.ops [⟨(some 22), none, (.int2 .eql .i64 (.tmp 20) (.const (.int .i64 1)))⟩, ⟨(some 21), none, (.ins (.mv (.tmp 22)))⟩]) (.cond (.tmp 21) (.seq (.draw #[0, 1, 0, 4, 12, 31, 63, 127, 255, 127, 639, 127, 2175, 7807, 16383, 32767] [⟨(some 23), none, (.ins (.faddr 0 (.tmp 5)))⟩, ⟨(some 24), none, (.ins (.load1 (.tmp 23)))⟩, ⟨(some 25), none, (.ins (.faddr 0 (.tmp 3)))⟩, ⟨(some 26), none, (.ins (.load1 (.tmp 25)))⟩, ⟨(some 27), none, (.slen (.tmp 26))⟩, ⟨(some 28), none, (.int2 .lss .i64 (.tmp 24) (.tmp 27))⟩, ⟨(some 29), none, (.ins (.mv (.tmp 28)))⟩, ⟨(some 30), (some ((some 29), true)), (.ins (.faddr 4 (.tmp 4)))⟩, ⟨(some 31), (some ((some 29), true)), (.ins (.loadN 4 (.tmp 30)))⟩, ⟨(some 32), (some ((some 29), true)), (.ins (.faddr 0 (.tmp 3)))⟩, ⟨(some 33), (some ((some 29), true)), (.ins (.load1 (.tmp 32)))⟩, ⟨(some 34), (some ((some 29), true)), (.ins (.faddr 0 (.tmp 5)))⟩, ⟨(some 35), (some ((some 29), true)), (.ins (.load1 (.tmp 34)))⟩, ⟨(some 36), (some ((some 29), true)), (.sidx (.tmp 33) (.tmp 35))⟩, ⟨(some 37), (some ((some 29), true)), (.ins (.call 83 [(.tmp 31), (.tmp 36)]))⟩, ⟨(some 38), none, (.ins (.pick (.tmp 29) (.tmp 37) (.const (.bool false))))⟩]) (.cond (.tmp 38) (.seq (.ops [⟨(some 39), none, (.ins (.faddr 0 (.tmp 5)))⟩, ⟨(some 40), none, (.ins (.load1 (.tmp 39)))⟩, ⟨(some 41), none, (.int2 .add .i64 (.tmp 40) (.const (.int .i64 1)))⟩, ⟨(some 42), none, (.ins (.faddr 0 (.tmp 5)))⟩, ⟨none, none, (.ins (.store 1 (.tmp 42) (.tmp 41)))⟩]) (.seq (.ops [⟨(some 43), none, (.ins (.loadN 9 (.tmp 5)))⟩, ⟨(some 44), none, (.ins (.bslice 113 1 [(.int .i64 0), (.int .i64 0), (.int .i64 0), (.int .i64 0), (.int .i64 0), (.int .i64 0), (.int .i64 0), (.int .i64 0), (.int .i64 0)] [(0, (9, (.tmp 43)))]))⟩, ⟨(some 6), none, (.ins (.mv (.tmp 44)))⟩]) .ret)) .skip)) (.seq (.ops [⟨(some 46), none, (.int2 .eql .i64 (.tmp 20) (.const (.int .i64 7)))⟩, ⟨(some 45), none, (.ins (.mv (.tmp 46)))⟩]) (.cond (.tmp 45) (.seq (.ops [⟨(some 47), none, (.ins (.faddr 0 (.tmp 5)))⟩, ⟨(some 48), none, (.ins (.load1 (.tmp 47)))⟩, ⟨(some 49), none, (.int2 .eql .i64 (.tmp 48) (.const (.int .i64 0)))⟩, ⟨(some 50), none, (.ins (.mv (.tmp 49)))⟩, ⟨(some 51), (some ((some 50), true)), (.ins (.faddr 1 (.tmp 3)))⟩, ⟨(some 52), (some ((some 50), true)), (.ins (.load1 (.tmp 51)))⟩, ⟨(some 53), none, (.ins (.pick (.tmp 50) (.tmp 52) (.const (.bool false))))⟩]) (.cond (.tmp 53) (.seq (.ops [⟨(some 54), none, (.ins (.mv (.tmp 7)))⟩, ⟨(some 6), none, (.ins (.mv (.tmp 54)))⟩]) .ret) .skip)) (.seq (.ops [⟨(some 56), none, (.int2 .eql .i64 (.tmp 20) (.const (.int .i64 8)))⟩, ⟨(some 55), none, (.ins (.mv (.tmp 56)))⟩]) (.cond (.tmp 55) (.seq (.ops [⟨(some 57), none, (.ins (.faddr 0 (.tmp 5)))⟩, ⟨(some 58), none, (.ins (.load1 (.tmp 57)))⟩, ⟨(some 59), none, (.ins (.faddr 0 (.tmp 3)))⟩, ⟨(some 60), none, (.ins (.load1 (.tmp 59)))⟩, ⟨(some 61), none, (.slen (.tmp 60))⟩, ⟨(some 62), none, (.int2 .eql .i64 (.tmp 58) (.tmp 61))⟩]) (.cond (.tmp 62) (.seq (.ops [⟨(some 63), none, (.ins (.mv (.tmp 7)))⟩, ⟨(some 6), none, (.ins (.mv (.tmp 63)))⟩]) .ret) .skip)) (.seq (.ops [⟨(some 65), none, (.int2 .eql .i64 (.tmp 20) (.const (.int .i64 6)))⟩, ⟨(some 64), none, (.ins (.mv (.tmp 65)))⟩]) (.cond (.tmp 64) (.seq (.ops [⟨(some 66), none, (.ins (.loadN 2 (.tmp 3)))⟩, ⟨(some 67), none, (.ins (.faddr 3 (.tmp 4)))⟩, ⟨(some 68), none, (.ins (.load1 (.tmp 67)))⟩, ⟨(some 69), none, (.ins (.loadN 9 (.tmp 5)))⟩, ⟨(some 70), none, (.ins (.call 84 [(.tmp 66), (.tmp 68), (.tmp 69)]))⟩, ⟨(some 6), none, (.ins (.mv (.tmp 70)))⟩]) .ret) (.seq (.ops [⟨(some 72), none, (.int2 .eql .i64 (.tmp 20) (.const (.int .i64 5)))⟩, ⟨(some 71), none, (.ins (.mv (.tmp 72)))⟩]) (.cond (.tmp 71) (.seq (.ops [⟨(some 73), none, (.ins (.call 85 []))⟩, ⟨(some 8), none, (.ins (.mv (.tmp 73)))⟩]) (.seq (.seq (.draw #[0, 0, 2, 6, 14, 0, 63, 127, 0] [⟨(some 74), none, (.ins (.loadN 2 (.tmp 3)))⟩, ⟨(some 75), none, (.ins (.faddr 8 (.tmp 4)))⟩, ⟨(some 76), none, (.ins (.load1 (.tmp 75)))⟩, ⟨(some 77), none, (.ins (.iaddrS 9 (.tmp 76) (.const (.int .i64 0))))⟩, ⟨(some 78), none, (.ins (.loadN 9 (.tmp 77)))⟩, ⟨(some 79), none, (.ins (.loadN 9 (.tmp 5)))⟩, ⟨(some 80), none, (.ins (.call 63 [(.tmp 74), (.tmp 78), (.tmp 79)]))⟩, ⟨(some 81), none, (.lenS (.tmp 80))⟩, ⟨(some 82), none, (.ins (.mv (.const (.int .i64 0))))⟩]) (.block 1 (.loop (wdc 0)))) (.seq (.ops [⟨(some 100), none, (.ins (.mv (.tmp 8)))⟩, ⟨(some 101), none, (.ins (.nilc (.tmp 100)))⟩, ⟨(some 102), none, (.ins (.faddr 0 (.tmp 101)))⟩, ⟨(some 103), none, (.ins (.load1 (.tmp 102)))⟩, ⟨(some 6), none, (.ins (.mv (.tmp 103)))⟩]) .ret))) (.seq (.ops [⟨(some 105), none, (.int2 .eql .i64 (.tmp 20) (.const (.int .i64 3)))⟩, ⟨(some 104), none, (.ins (.mv (.tmp 105)))⟩]) (.cond (.tmp 104) (.seq (.ops [⟨(some 106), none, (.ins (.call 85 []))⟩, ⟨(some 11), none, (.ins (.mv (.tmp 106)))⟩]) (.seq (.seq (.ops [⟨(some 107), none, (.ins (.faddr 8 (.tmp 4)))⟩, ⟨(some 108), none, (.ins (.load1 (.tmp 107)))⟩, ⟨(some 109), none, (.lenS (.tmp 108))⟩, ⟨(some 110), none, (.ins (.mv (.const (.int .i64 0))))⟩]) (.block 3 (.loop (wdc 1)))) (.seq (.ops [⟨(some 121), none, (.ins (.mv (.tmp 11)))⟩, ⟨(some 122), none, (.ins (.nilc (.tmp 121)))⟩, ⟨(some 123), none, (.ins (.faddr 0 (.tmp 122)))⟩, ⟨(some 124), none, (.ins (.load1 (.tmp 123)))⟩, ⟨(some 6), none, (.ins (.mv (.tmp 124)))⟩]) .ret))) (.seq (.ops [⟨(some 126), none, (.int2 .eql .i64 (.tmp 20) (.const (.int .i64 2)))⟩, ⟨(some 125), none, (.ins (.mv (.tmp 126)))⟩]) (.cond (.tmp 125) (.seq (.seq (.ops [⟨(some 127), none, (.ins (.faddr 8 (.tmp 4)))⟩, ⟨(some 128), none, (.ins (.load1 (.tmp 127)))⟩, ⟨(some 129), none, (.lenS (.tmp 128))⟩, ⟨(some 130), none, (.ins (.mv (.const (.int .i64 0))))⟩]) (.block 5 (.loop (wdc 2)))) (.seq (.ops [⟨(some 139), none, (.ins (.mv (.tmp 7)))⟩, ⟨(some 6), none, (.ins (.mv (.tmp 139)))⟩]) .ret)) (.seq (.ops [⟨(some 141), none, (.int2 .eql .i64 (.tmp 20) (.const (.int .i64 4)))⟩, ⟨(some 140), none, (.ins (.mv (.tmp 141)))⟩]) (.cond (.tmp 140) (.seq (.draw #[0, 0, 0, 0, 15, 31, 63] [⟨(some 142), none, (.ins (.loadN 2 (.tmp 3)))⟩, ⟨(some 143), none, (.ins (.loadN 9 (.tmp 4)))⟩, ⟨(some 144), none, (.ins (.call 85 []))⟩, ⟨(some 145), none, (.ins .mkmap)⟩, ⟨(some 146), none, (.ins (.build [(str []), (.bool false), (.int .i64 0), (.int .i64 0), (.int .i64 0), (.int .i64 0), (.int .u64 0), (.int .u64 0), (.int .u64 0), (.int .u64 0), (.slice none 0 0), (.pointer none), (.map none)] [(0, (2, (.tmp 142))), (2, (9, (.tmp 143))), (11, (1, (.tmp 144))), (12, (1, (.tmp 145)))]))⟩, ⟨(some 147), none, (.ins (.box 163 (.tmp 146)))⟩, ⟨(some 16), none, (.ins (.mv (.tmp 147)))⟩]) (.seq (.ops [⟨(some 148), none, (.ins (.mv (.tmp 16)))⟩, ⟨(some 149), none, (.ins (.loadN 9 (.tmp 5)))⟩, ⟨(some 150), none, (.ins (.call 88 [(.tmp 148), (.const (.int .i64 0)), (.tmp 149)]))⟩]) (.seq (.ops [⟨(some 151), none, (.ins (.mv (.tmp 16)))⟩, ⟨(some 152), none, (.ins (.nilc (.tmp 151)))⟩, ⟨(some 153), none, (.ins (.faddr 11 (.tmp 152)))⟩, ⟨(some 154), none, (.ins (.load1 (.tmp 153)))⟩, ⟨(some 155), none, (.ins (.nilc (.tmp 154)))⟩, ⟨(some 156), none, (.ins (.faddr 0 (.tmp 155)))⟩, ⟨(some 157), none, (.ins (.load1 (.tmp 156)))⟩, ⟨(some 6), none, (.ins (.mv (.tmp 157)))⟩]) .ret))) .skip)))))))))))))))))) (.seq (.ops [⟨(some 6), none, (.ins (.mv (.const (.slice none 0 0))))⟩]) .ret)))), [(.tmp 6)]⟩
theorem wfq : trF Try.prog 63 = some wrm := by kernel_rfl
noncomputable def wsm : RF := ⟨55, (.seq (.ops [⟨(some 3), none, (.ins (.box 123 (.tmp 0)))⟩, ⟨(some 5), none, (.ins (.box 113 (.tmp 2)))⟩, ⟨(some 6), none, (.ins (.mv (.const (.slice none 0 0))))⟩]) (.seq (.ops [⟨(some 9), none, (.ins (.mv (.tmp 1)))⟩, ⟨(some 10), none, (.ins (.faddr 1 (.tmp 5)))⟩, ⟨(some 11), none, (.ins (.iaddrA 4 2 (.tmp 10) (.tmp 9)))⟩, ⟨(some 12), none, (.ins (.loadN 2 (.tmp 11)))⟩, ⟨(some 7), none, (.ins (.new [(.int .i64 0), (.int .i64 0)] 53))⟩, ⟨none, none, (.ins (.store 2 (.tmp 7) (.tmp 12)))⟩]) (.seq (.seq (.ops [⟨(some 13), none, (.ins (.faddr 0 (.tmp 7)))⟩, ⟨(some 14), none, (.ins (.load1 (.tmp 13)))⟩, ⟨(some 15), none, (.int2 .lss .i64 (.tmp 14) (.const (.int .i64 0)))⟩]) (.cond (.tmp 15) (.seq (.ops [⟨(some 6), none, (.ins (.mv (.const (.slice none 0 0))))⟩]) .ret) .skip)) (.seq (.ops [⟨(some 16), none, (.ins (.faddr 1 (.tmp 7)))⟩, ⟨(some 17), none, (.ins (.load1 (.tmp 16)))⟩, ⟨(some 18), none, (.ins (.faddr 0 (.tmp 7)))⟩, ⟨(some 19), none, (.ins (.load1 (.tmp 18)))⟩, ⟨(some 20), none, (.int2 .sub .i64 (.tmp 17) (.tmp 19))⟩, ⟨(some 8), none, (.ins (.mv (.tmp 20)))⟩]) (.seq (.seq (.draw #[0, 0, 2, 6, 0, 16, 62, 127, 255, 511, 1023, 511, 2559, 511, 8703, 32767, 511, 66047, 511, 262655, 511, 1049087, 511, 7340543, 16712191, 33554431, 67108863] [⟨(some 21), none, (.ins (.mv (.tmp 8)))⟩, ⟨(some 22), none, (.ins (.faddr 0 (.tmp 3)))⟩, ⟨(some 23), none, (.ins (.load1 (.tmp 22)))⟩, ⟨(some 24), none, (.slen (.tmp 23))⟩, ⟨(some 25), none, (.ins (.faddr 0 (.tmp 5)))⟩, ⟨(some 26), none, (.ins (.load1 (.tmp 25)))⟩, ⟨(some 27), none, (.int2 .sub .i64 (.tmp 24) (.tmp 26))⟩, ⟨(some 28), none, (.int2 .gtr .i64 (.tmp 21) (.tmp 27))⟩, ⟨(some 29), none, (.ins (.mv (.tmp 28)))⟩, ⟨(some 30), (some ((some 29), false)), (.ins (.faddr 0 (.tmp 3)))⟩, ⟨(some 31), (some ((some 29), false)), (.ins (.load1 (.tmp 30)))⟩, ⟨(some 32), (some ((some 29), false)), (.ins (.faddr 0 (.tmp 7)))⟩, ⟨(some 33), (some ((some 29), false)), (.ins (.load1 (.tmp 32)))⟩, ⟨(some 34), (some ((some 29), false)), (.ins (.faddr 1 (.tmp 7)))⟩, ⟨(some 35), (some ((some 29), false)), (.ins (.load1 (.tmp 34)))⟩, ⟨(some 36), (some ((some 29), false)), (.ssl (.tmp 31) (some (.tmp 33)) (some (.tmp 35)))⟩, ⟨(some 37), (some ((some 29), false)), (.ins (.faddr 0 (.tmp 3)))⟩, ⟨(some 38), (some ((some 29), false)), (.ins (.load1 (.tmp 37)))⟩, ⟨(some 39), (some ((some 29), false)), (.ins (.faddr 0 (.tmp 5)))⟩, ⟨(some 40), (some ((some 29), false)), (.ins (.load1 (.tmp 39)))⟩, ⟨(some 41), (some ((some 29), false)), (.ins (.faddr 0 (.tmp 5)))⟩, ⟨(some 42), (some ((some 29), false)), (.ins (.load1 (.tmp 41)))⟩, ⟨(some 43), (some ((some 29), false)), (.ins (.mv (.tmp 8)))⟩, ⟨(some 44), (some ((some 29), false)), (.int2 .add .i64 (.tmp 42) (.tmp 43))⟩, ⟨(some 45), (some ((some 29), false)), (.ssl (.tmp 38) (some (.tmp 40)) (some (.tmp 44)))⟩, ⟨(some 46), (some ((some 29), false)), (.str2 .neq (.tmp 36) (.tmp 45))⟩, ⟨(some 47), none, (.ins (.pick (.tmp 29) (.const (.bool true)) (.tmp 46)))⟩]) (.cond (.tmp 47) (.seq (.ops [⟨(some 6), none, (.ins (.mv (.const (.slice none 0 0))))⟩]) .ret) .skip)) (.seq (.ops [⟨(some 48), none, (.ins (.faddr 0 (.tmp 5)))⟩, ⟨(some 49), none, (.ins (.load1 (.tmp 48)))⟩, ⟨(some 50), none, (.ins (.mv (.tmp 8)))⟩, ⟨(some 51), none, (.int2 .add .i64 (.tmp 49) (.tmp 50))⟩, ⟨(some 52), none, (.ins (.faddr 0 (.tmp 5)))⟩, ⟨none, none, (.ins (.store 1 (.tmp 52) (.tmp 51)))⟩]) (.seq (.ops [⟨(some 53), none, (.ins (.loadN 9 (.tmp 5)))⟩, ⟨(some 54), none, (.ins (.bslice 113 1 [(.int .i64 0), (.int .i64 0), (.int .i64 0), (.int .i64 0), (.int .i64 0), (.int .i64 0), (.int .i64 0), (.int .i64 0), (.int .i64 0)] [(0, (9, (.tmp 53)))]))⟩, ⟨(some 6), none, (.ins (.mv (.tmp 54)))⟩]) .ret))))))), [(.tmp 6)]⟩
theorem wgq : trF Try.prog 84 = some wsm := by kernel_rfl
noncomputable def wwr : RF := ⟨4, (.seq (.ops [⟨(some 0), none, (.ins (.mv (.const (.pointer none))))⟩]) (.seq (.ops [⟨(some 1), none, (.ins .mkmap)⟩, ⟨(some 2), none, (.ins (.build [(.slice none 0 0), (.map none)] [(1, (1, (.tmp 1)))]))⟩, ⟨(some 3), none, (.ins (.box 158 (.tmp 2)))⟩, ⟨(some 0), none, (.ins (.mv (.tmp 3)))⟩]) .ret)), [(.tmp 0)]⟩
theorem wpt : trF Try.prog 85 = some wwr := by kernel_rfl
noncomputable def wlf (i : Nat) : Code := lp Try.prog 86 i
noncomputable def wde : RC := (.seq (.ops [⟨(some 9), none, (.int2 .lss .i64 (.tmp 8) (.tmp 7))⟩]) (.seq (.cond (.tmp 9) .skip (.exit 0)) (.seq (.block 1 (.seq (.ops [⟨(some 10), none, (.ins (.iaddrS 9 (.tmp 6) (.tmp 8)))⟩, ⟨(some 11), none, (.ins (.loadN 9 (.tmp 10)))⟩, ⟨(some 5), none, (.ins (.new [(.int .i64 0), (.int .i64 0), (.int .i64 0), (.int .i64 0), (.int .i64 0), (.int .i64 0), (.int .i64 0), (.int .i64 0), (.int .i64 0)] 113))⟩, ⟨none, none, (.ins (.store 9 (.tmp 5) (.tmp 11)))⟩]) (.seq (.draw #[0, 1, 3, 7, 0, 31, 63] [⟨(some 12), none, (.ins (.mv (.tmp 0)))⟩, ⟨(some 13), none, (.ins (.nilc (.tmp 12)))⟩, ⟨(some 14), none, (.ins (.faddr 1 (.tmp 13)))⟩, ⟨(some 15), none, (.ins (.load1 (.tmp 14)))⟩, ⟨(some 16), none, (.ins (.loadN 9 (.tmp 5)))⟩, ⟨(some 17), none, (.look 113 (.bool false) false (.tmp 15) (.tmp 16))⟩, ⟨(some 18), none, (.un .not (.tmp 17))⟩]) (.cond (.tmp 18) (.seq (.draw #[0, 1, 3, 7, 0, 31] [⟨(some 19), none, (.ins (.mv (.tmp 0)))⟩, ⟨(some 20), none, (.ins (.nilc (.tmp 19)))⟩, ⟨(some 21), none, (.ins (.faddr 1 (.tmp 20)))⟩, ⟨(some 22), none, (.ins (.load1 (.tmp 21)))⟩, ⟨(some 23), none, (.ins (.loadN 9 (.tmp 5)))⟩, ⟨none, none, (.ins (.upd 113 (.tmp 22) (.tmp 23) (.const (.bool true))))⟩]) (.draw #[0, 0, 2, 6, 14, 0, 32, 126, 255, 511, 1023] [⟨(some 24), none, (.ins (.mv (.tmp 0)))⟩, ⟨(some 25), none, (.ins (.mv (.tmp 0)))⟩, ⟨(some 26), none, (.ins (.nilc (.tmp 25)))⟩, ⟨(some 27), none, (.ins (.faddr 0 (.tmp 26)))⟩, ⟨(some 28), none, (.ins (.load1 (.tmp 27)))⟩, ⟨(some 29), none, (.ins (.loadN 9 (.tmp 5)))⟩, ⟨(some 30), none, (.ins (.bslice 113 1 [(.int .i64 0), (.int .i64 0), (.int .i64 0), (.int .i64 0), (.int .i64 0), (.int .i64 0), (.int .i64 0), (.int .i64 0), (.int .i64 0)] [(0, (9, (.tmp 29)))]))⟩, ⟨(some 31), none, (.ins (.app 113 9 72 (.tmp 28) (.tmp 30)))⟩, ⟨(some 32), none, (.ins (.nilc (.tmp 24)))⟩, ⟨(some 33), none, (.ins (.faddr 0 (.tmp 32)))⟩, ⟨none, none, (.ins (.store 1 (.tmp 33) (.tmp 31)))⟩])) .skip)))) (.ops [⟨(some 34), none, (.int2 .add .i64 (.tmp 8) (.const (.int .i64 1)))⟩, ⟨(some 8), none, (.ins (.mv (.tmp 34)))⟩]))))
theorem wwd : trC Try.prog (wlf 0) = wde := by kernel_rfl
noncomputable def wqi : RF := ⟨35, (.seq (.ops [⟨(some 6), none, (.ins (.mv (.tmp 1)))⟩, ⟨(some 7), none, (.lenS (.tmp 6))⟩, ⟨(some 8), none, (.ins (.mv (.const (.int .i64 0))))⟩]) (.block 0 (.loop (wlf 0)))), []⟩
theorem wmi : trF Try.prog 86 = some wqi := by kernel_rfl
noncomputable def wcg (i : Nat) : Code := lp Try.prog 87 i
noncomputable def wef : RC := (.seq (.ops [⟨(some 14), none, (.int2 .lss .i64 (.tmp 13) (.tmp 12))⟩]) (.seq (.cond (.tmp 14) .skip (.exit 0)) (.seq (.block 1 (.seq (.ops [⟨(some 15), none, (.ins (.iaddrS 9 (.tmp 11) (.tmp 13)))⟩, ⟨(some 16), none, (.ins (.loadN 9 (.tmp 15)))⟩, ⟨(some 9), none, (.ins (.new [(.int .i64 0), (.int .i64 0), (.int .i64 0), (.int .i64 0), (.int .i64 0), (.int .i64 0), (.int .i64 0), (.int .i64 0), (.int .i64 0)] 113))⟩, ⟨none, none, (.ins (.store 9 (.tmp 9) (.tmp 16)))⟩]) (.ops [⟨(some 17), none, (.ins (.mv (.tmp 7)))⟩, ⟨(some 18), none, (.ins (.loadN 2 (.tmp 3)))⟩, ⟨(some 19), none, (.ins (.loadN 9 (.tmp 4)))⟩, ⟨(some 20), none, (.ins (.loadN 9 (.tmp 9)))⟩, ⟨(some 21), none, (.ins (.call 63 [(.tmp 18), (.tmp 19), (.tmp 20)]))⟩, ⟨(some 22), none, (.ins (.call 86 [(.tmp 17), (.tmp 21)]))⟩]))) (.ops [⟨(some 23), none, (.int2 .add .i64 (.tmp 13) (.const (.int .i64 1)))⟩, ⟨(some 13), none, (.ins (.mv (.tmp 23)))⟩]))))
theorem wff : trC Try.prog (wcg 0) = wef := by kernel_rfl
noncomputable def wtm : RF := ⟨28, (.seq (.ops [⟨(some 3), none, (.ins (.box 123 (.tmp 0)))⟩, ⟨(some 4), none, (.ins (.box 47 (.tmp 1)))⟩, ⟨(some 6), none, (.ins (.mv (.const (.slice none 0 0))))⟩]) (.seq (.ops [⟨(some 10), none, (.ins (.call 85 []))⟩, ⟨(some 7), none, (.ins (.mv (.tmp 10)))⟩]) (.seq (.seq (.ops [⟨(some 11), none, (.ins (.mv (.tmp 2)))⟩, ⟨(some 12), none, (.lenS (.tmp 11))⟩, ⟨(some 13), none, (.ins (.mv (.const (.int .i64 0))))⟩]) (.block 0 (.loop (wcg 0)))) (.seq (.ops [⟨(some 24), none, (.ins (.mv (.tmp 7)))⟩, ⟨(some 25), none, (.ins (.nilc (.tmp 24)))⟩, ⟨(some 26), none, (.ins (.faddr 0 (.tmp 25)))⟩, ⟨(some 27), none, (.ins (.load1 (.tmp 26)))⟩, ⟨(some 6), none, (.ins (.mv (.tmp 27)))⟩]) .ret)))), [(.tmp 6)]⟩
theorem whq : trF Try.prog 87 = some wtm := by kernel_rfl
noncomputable def wae (i : Nat) : Code := lp Try.prog 88 i
noncomputable def wfd : RC := (.seq (.ops [⟨(some 55), none, (.int2 .lss .i64 (.tmp 54) (.tmp 53))⟩]) (.seq (.cond (.tmp 55) .skip (.exit 0)) (.seq (.block 1 (.seq (.ops [⟨(some 56), none, (.ins (.iaddrS 9 (.tmp 52) (.tmp 54)))⟩, ⟨(some 57), none, (.ins (.loadN 9 (.tmp 56)))⟩, ⟨(some 7), none, (.ins (.new [(.int .i64 0), (.int .i64 0), (.int .i64 0), (.int .i64 0), (.int .i64 0), (.int .i64 0), (.int .i64 0), (.int .i64 0), (.int .i64 0)] 113))⟩, ⟨none, none, (.ins (.store 9 (.tmp 7) (.tmp 57)))⟩]) (.seq (.ops [⟨(some 58), none, (.ins (.faddr 0 (.tmp 7)))⟩, ⟨(some 59), none, (.ins (.load1 (.tmp 58)))⟩, ⟨(some 60), none, (.ins (.faddr 0 (.tmp 5)))⟩, ⟨(some 61), none, (.ins (.load1 (.tmp 60)))⟩, ⟨(some 62), none, (.int2 .neq .i64 (.tmp 59) (.tmp 61))⟩, ⟨(some 63), none, (.ins (.mv (.tmp 62)))⟩, ⟨(some 64), (some ((some 63), false)), (.ins (.mv (.tmp 1)))⟩, ⟨(some 65), (some ((some 63), false)), (.ins (.mv (.tmp 0)))⟩, ⟨(some 66), (some ((some 63), false)), (.ins (.nilc (.tmp 65)))⟩, ⟨(some 67), (some ((some 63), false)), (.ins (.faddr 2 (.tmp 66)))⟩, ⟨(some 68), (some ((some 63), false)), (.ins (.faddr 1 (.tmp 67)))⟩, ⟨(some 69), (some ((some 63), false)), (.ins (.load1 (.tmp 68)))⟩, ⟨(some 70), (some ((some 63), false)), (.int2 .lss .i64 (.tmp 64) (.tmp 69))⟩, ⟨(some 71), none, (.ins (.pick (.tmp 63) (.const (.bool true)) (.tmp 70)))⟩]) (.cond (.tmp 71) (.ops [⟨(some 72), none, (.ins (.mv (.tmp 0)))⟩, ⟨(some 73), none, (.ins (.mv (.tmp 1)))⟩, ⟨(some 74), none, (.int2 .add .i64 (.tmp 73) (.const (.int .i64 1)))⟩, ⟨(some 75), none, (.ins (.loadN 9 (.tmp 7)))⟩, ⟨(some 76), none, (.ins (.call 88 [(.tmp 72), (.tmp 74), (.tmp 75)]))⟩]) .skip)))) (.ops [⟨(some 77), none, (.int2 .add .i64 (.tmp 54) (.const (.int .i64 1)))⟩, ⟨(some 54), none, (.ins (.mv (.tmp 77)))⟩]))))
theorem wcd : trC Try.prog (wae 0) = wfd := by kernel_rfl
noncomputable def wai : RF := ⟨92, (.seq (.ops [⟨(some 5), none, (.ins (.box 113 (.tmp 2)))⟩]) (.seq (.seq (.draw #[0, 1, 3, 7, 0, 0, 0, 112, 255] [⟨(some 8), none, (.ins (.mv (.tmp 0)))⟩, ⟨(some 9), none, (.ins (.nilc (.tmp 8)))⟩, ⟨(some 10), none, (.ins (.faddr 12 (.tmp 9)))⟩, ⟨(some 11), none, (.ins (.load1 (.tmp 10)))⟩, ⟨(some 12), none, (.ins (.mv (.tmp 0)))⟩, ⟨(some 13), none, (.ins (.mv (.tmp 1)))⟩, ⟨(some 14), none, (.ins (.loadN 9 (.tmp 5)))⟩, ⟨(some 15), none, (.ins (.call 108 [(.tmp 12), (.tmp 13), (.tmp 14)]))⟩, ⟨(some 16), none, (.look 181 (.bool false) false (.tmp 11) (.tmp 15))⟩]) (.cond (.tmp 16) .ret .skip)) (.seq (.draw #[0, 1, 3, 7, 0, 0, 0, 112, 255] [⟨(some 17), none, (.ins (.mv (.tmp 0)))⟩, ⟨(some 18), none, (.ins (.nilc (.tmp 17)))⟩, ⟨(some 19), none, (.ins (.faddr 12 (.tmp 18)))⟩, ⟨(some 20), none, (.ins (.load1 (.tmp 19)))⟩, ⟨(some 21), none, (.ins (.mv (.tmp 0)))⟩, ⟨(some 22), none, (.ins (.mv (.tmp 1)))⟩, ⟨(some 23), none, (.ins (.loadN 9 (.tmp 5)))⟩, ⟨(some 24), none, (.ins (.call 108 [(.tmp 21), (.tmp 22), (.tmp 23)]))⟩, ⟨none, none, (.ins (.upd 181 (.tmp 20) (.tmp 24) (.const (.bool true))))⟩]) (.seq (.seq (.ops [⟨(some 25), none, (.ins (.mv (.tmp 0)))⟩, ⟨(some 26), none, (.ins (.nilc (.tmp 25)))⟩, ⟨(some 27), none, (.ins (.faddr 2 (.tmp 26)))⟩, ⟨(some 28), none, (.ins (.faddr 2 (.tmp 27)))⟩, ⟨(some 29), none, (.ins (.load1 (.tmp 28)))⟩, ⟨(some 30), none, (.int2 .lss .i64 (.tmp 29) (.const (.int .i64 0)))⟩, ⟨(some 31), none, (.ins (.mv (.tmp 30)))⟩, ⟨(some 32), (some ((some 31), false)), (.ins (.mv (.tmp 1)))⟩, ⟨(some 33), (some ((some 31), false)), (.ins (.mv (.tmp 0)))⟩, ⟨(some 34), (some ((some 31), false)), (.ins (.nilc (.tmp 33)))⟩, ⟨(some 35), (some ((some 31), false)), (.ins (.faddr 2 (.tmp 34)))⟩, ⟨(some 36), (some ((some 31), false)), (.ins (.faddr 2 (.tmp 35)))⟩, ⟨(some 37), (some ((some 31), false)), (.ins (.load1 (.tmp 36)))⟩, ⟨(some 38), (some ((some 31), false)), (.int2 .lss .i64 (.tmp 32) (.tmp 37))⟩, ⟨(some 39), none, (.ins (.pick (.tmp 31) (.const (.bool true)) (.tmp 38)))⟩]) (.cond (.tmp 39) (.seq (.draw #[0, 1, 3, 7, 0, 16, 48, 112, 240, 496, 1008, 0, 4095, 8191, 0] [⟨(some 40), none, (.ins (.mv (.tmp 0)))⟩, ⟨(some 41), none, (.ins (.nilc (.tmp 40)))⟩, ⟨(some 42), none, (.ins (.faddr 0 (.tmp 41)))⟩, ⟨(some 43), none, (.ins (.loadN 2 (.tmp 42)))⟩, ⟨(some 44), none, (.ins (.mv (.tmp 0)))⟩, ⟨(some 45), none, (.ins (.nilc (.tmp 44)))⟩, ⟨(some 46), none, (.ins (.faddr 2 (.tmp 45)))⟩, ⟨(some 47), none, (.ins (.faddr 8 (.tmp 46)))⟩, ⟨(some 48), none, (.ins (.load1 (.tmp 47)))⟩, ⟨(some 49), none, (.ins (.iaddrS 9 (.tmp 48) (.const (.int .i64 0))))⟩, ⟨(some 50), none, (.ins (.loadN 9 (.tmp 49)))⟩, ⟨(some 51), none, (.ins (.loadN 9 (.tmp 5)))⟩, ⟨(some 52), none, (.ins (.call 63 [(.tmp 43), (.tmp 50), (.tmp 51)]))⟩, ⟨(some 53), none, (.lenS (.tmp 52))⟩, ⟨(some 54), none, (.ins (.mv (.const (.int .i64 0))))⟩]) (.block 0 (.loop (wae 0)))) .skip)) (.seq (.ops [⟨(some 78), none, (.ins (.mv (.tmp 1)))⟩, ⟨(some 79), none, (.ins (.mv (.tmp 0)))⟩, ⟨(some 80), none, (.ins (.nilc (.tmp 79)))⟩, ⟨(some 81), none, (.ins (.faddr 2 (.tmp 80)))⟩, ⟨(some 82), none, (.ins (.faddr 1 (.tmp 81)))⟩, ⟨(some 83), none, (.ins (.load1 (.tmp 82)))⟩, ⟨(some 84), none, (.int2 .geq .i64 (.tmp 78) (.tmp 83))⟩]) (.cond (.tmp 84) (.draw #[0, 1, 3, 7, 0, 16, 63] [⟨(some 85), none, (.ins (.mv (.tmp 0)))⟩, ⟨(some 86), none, (.ins (.nilc (.tmp 85)))⟩, ⟨(some 87), none, (.ins (.faddr 11 (.tmp 86)))⟩, ⟨(some 88), none, (.ins (.load1 (.tmp 87)))⟩, ⟨(some 89), none, (.ins (.loadN 9 (.tmp 5)))⟩, ⟨(some 90), none, (.ins (.bslice 113 1 [(.int .i64 0), (.int .i64 0), (.int .i64 0), (.int .i64 0), (.int .i64 0), (.int .i64 0), (.int .i64 0), (.int .i64 0), (.int .i64 0)] [(0, (9, (.tmp 89)))]))⟩, ⟨(some 91), none, (.ins (.call 86 [(.tmp 88), (.tmp 90)]))⟩]) .skip)))))), []⟩
theorem wyi : trF Try.prog 88 = some wai := by kernel_rfl
noncomputable def wmh : RF := ⟨23, (.seq (.ops [⟨(some 5), none, (.ins (.box 113 (.tmp 2)))⟩, ⟨(some 6), none, (.ins (.new [(.int .i64 0), (.int .i64 0), (.int .i64 0), (.int .i64 0), (.int .i64 0), (.int .i64 0), (.int .i64 0), (.int .i64 0), (.int .i64 0), (.int .i64 0)] 181))⟩]) (.seq (.seq (.ops [⟨(some 7), none, (.ins (.mv (.tmp 0)))⟩, ⟨(some 8), none, (.ins (.nilc (.tmp 7)))⟩, ⟨(some 9), none, (.ins (.faddr 2 (.tmp 8)))⟩, ⟨(some 10), none, (.ins (.faddr 2 (.tmp 9)))⟩, ⟨(some 11), none, (.ins (.load1 (.tmp 10)))⟩, ⟨(some 12), none, (.int2 .lss .i64 (.tmp 11) (.const (.int .i64 0)))⟩]) (.cond (.tmp 12) (.ops [⟨(some 13), none, (.ins (.mv (.tmp 1)))⟩, ⟨(some 14), none, (.ins (.mv (.tmp 0)))⟩, ⟨(some 15), none, (.ins (.nilc (.tmp 14)))⟩, ⟨(some 16), none, (.ins (.faddr 2 (.tmp 15)))⟩, ⟨(some 17), none, (.ins (.faddr 1 (.tmp 16)))⟩, ⟨(some 18), none, (.ins (.load1 (.tmp 17)))⟩, ⟨(some 19), none, (.mm false (.tmp 13) [(.tmp 18)])⟩, ⟨(some 1), none, (.ins (.mv (.tmp 19)))⟩]) .skip)) (.seq (.ops [⟨(some 20), none, (.ins (.mv (.tmp 1)))⟩, ⟨(some 21), none, (.ins (.loadN 9 (.tmp 5)))⟩, ⟨(some 22), none, (.ins (.build [(.int .i64 0), (.int .i64 0), (.int .i64 0), (.int .i64 0), (.int .i64 0), (.int .i64 0), (.int .i64 0), (.int .i64 0), (.int .i64 0), (.int .i64 0)] [(0, (1, (.tmp 20))), (1, (9, (.tmp 21)))]))⟩, ⟨none, none, (.ins (.store 10 (.tmp 6) (.tmp 22)))⟩]) .ret))), [(.cellN 6 10)]⟩
theorem wfi : trF Try.prog 108 = some wmh := by kernel_rfl
noncomputable def wfw : RF := ⟨35, (.seq (.ops [⟨(some 4), none, (.ins (.box 47 (.tmp 0)))⟩, ⟨(some 8), none, (.ins (.mv (.const (.slice none 0 0))))⟩]) (.seq (.seq (.ops [⟨(some 9), none, (.ins (.loadN 9 (.tmp 4)))⟩, ⟨(some 10), none, (.ins (.call 58 [(.tmp 9), (.const (.bool true))]))⟩, ⟨(some 11), none, (.un .not (.tmp 10))⟩, ⟨(some 12), none, (.ins (.mv (.tmp 11)))⟩, ⟨(some 13), (some ((some 12), false)), (.ins (.mv (.tmp 1)))⟩, ⟨(some 14), (some ((some 12), false)), (.slen (.tmp 13))⟩, ⟨(some 15), (some ((some 12), false)), (.int2 .gtr .i64 (.tmp 14) (.const (.int .i64 60)))⟩, ⟨(some 16), none, (.ins (.pick (.tmp 12) (.const (.bool true)) (.tmp 15)))⟩, ⟨(some 17), none, (.ins (.mv (.tmp 16)))⟩, ⟨(some 18), (some ((some 17), false)), (.ins (.mv (.tmp 3)))⟩, ⟨(some 19), (some ((some 17), false)), (.int2 .lss .i64 (.tmp 18) (.const (.int .i64 0)))⟩, ⟨(some 20), none, (.ins (.pick (.tmp 17) (.const (.bool true)) (.tmp 19)))⟩, ⟨(some 21), none, (.ins (.mv (.tmp 20)))⟩, ⟨(some 22), (some ((some 21), false)), (.ins (.mv (.tmp 3)))⟩, ⟨(some 23), (some ((some 21), false)), (.ins (.mv (.tmp 1)))⟩, ⟨(some 24), (some ((some 21), false)), (.slen (.tmp 23))⟩, ⟨(some 25), (some ((some 21), false)), (.int2 .gtr .i64 (.tmp 22) (.tmp 24))⟩, ⟨(some 26), none, (.ins (.pick (.tmp 21) (.const (.bool true)) (.tmp 25)))⟩]) (.cond (.tmp 26) (.seq (.ops [⟨(some 8), none, (.ins (.mv (.const (.slice none 0 0))))⟩]) .ret) .skip)) (.seq (.draw #[0, 0, 3, 0, 0, 0, 48, 127, 255] [⟨(some 27), none, (.ins (.mv (.tmp 1)))⟩, ⟨(some 28), none, (.ins (.mv (.tmp 2)))⟩, ⟨(some 29), none, (.ins (.build [(str []), (.bool false)] [(0, (1, (.tmp 27))), (1, (1, (.tmp 28)))]))⟩, ⟨(some 30), none, (.ins (.loadN 9 (.tmp 4)))⟩, ⟨(some 31), none, (.ins (.mv (.tmp 3)))⟩, ⟨(some 32), none, (.ins (.call 30 []))⟩, ⟨(some 33), none, (.ins (.build [(.int .i64 0), (.int .i64 0), (.int .i64 0), (.int .i64 0), (.int .i64 0), (.int .i64 0), (.int .i64 0), (.int .i64 0), (.int .i64 0)] [(0, (1, (.tmp 31))), (1, (8, (.tmp 32)))]))⟩, ⟨(some 34), none, (.ins (.call 63 [(.tmp 29), (.tmp 30), (.tmp 33)]))⟩, ⟨(some 8), none, (.ins (.mv (.tmp 34)))⟩]) .ret))), [(.tmp 8)]⟩
theorem wqx : trF Try.prog 40 = some wfw := by kernel_rfl
noncomputable def wgw : RF := ⟨29, (.seq (.ops [⟨(some 2), none, (.ins (.box 47 (.tmp 0)))⟩, ⟨(some 4), none, (.ins (.mv (.const (.bool false))))⟩]) (.seq (.ops [⟨(some 6), none, (.ins (.mv (.tmp 1)))⟩, ⟨(some 7), none, (.ins (.build [(.bool false), (.int .i64 0)] [(0, (1, (.tmp 6)))]))⟩, ⟨(some 8), none, (.ins (.box 143 (.tmp 7)))⟩, ⟨(some 5), none, (.ins (.mv (.tmp 8)))⟩]) (.seq (.ops [⟨(some 9), none, (.ins (.loadN 9 (.tmp 2)))⟩, ⟨(some 10), none, (.ins (.call 62 [(.tmp 9)]))⟩, ⟨(some 11), none, (.int2 .leq .i64 (.tmp 10) (.const (.int .i64 40)))⟩, ⟨(some 12), none, (.ins (.mv (.tmp 11)))⟩, ⟨(some 13), (some ((some 12), true)), (.ins (.mv (.tmp 5)))⟩, ⟨(some 14), (some ((some 12), true)), (.ins (.loadN 9 (.tmp 2)))⟩, ⟨(some 15), (some ((some 12), true)), (.ins (.call 78 [(.tmp 13), (.tmp 14)]))⟩, ⟨(some 16), none, (.ins (.pick (.tmp 12) (.tmp 15) (.const (.bool false))))⟩, ⟨(some 17), none, (.ins (.mv (.tmp 16)))⟩, ⟨(some 18), (some ((some 17), true)), (.ins (.mv (.tmp 5)))⟩, ⟨(some 19), (some ((some 17), true)), (.ins (.loadN 9 (.tmp 2)))⟩, ⟨(some 20), (some ((some 17), true)), (.ins (.call 79 [(.tmp 18), (.tmp 19), (.const (.int .i64 0))]))⟩, ⟨(some 21), none, (.ins (.pick (.tmp 17) (.tmp 20) (.const (.bool false))))⟩, ⟨(some 22), none, (.ins (.mv (.tmp 21)))⟩, ⟨(some 23), (some ((some 22), true)), (.ins (.mv (.tmp 5)))⟩, ⟨(some 24), (some ((some 22), true)), (.ins (.nilc (.tmp 23)))⟩, ⟨(some 25), (some ((some 22), true)), (.ins (.faddr 1 (.tmp 24)))⟩, ⟨(some 26), (some ((some 22), true)), (.ins (.load1 (.tmp 25)))⟩, ⟨(some 27), (some ((some 22), true)), (.int2 .leq .i64 (.tmp 26) (.const (.int .i64 3)))⟩, ⟨(some 28), none, (.ins (.pick (.tmp 22) (.tmp 27) (.const (.bool false))))⟩, ⟨(some 4), none, (.ins (.mv (.tmp 28)))⟩]) .ret))), [(.tmp 4)]⟩
theorem wrx : trF Try.prog 58 = some wgw := by kernel_rfl
noncomputable def whm (i : Nat) : Code := lp Try.prog 62 i
noncomputable def wim : RC := (.seq (.ops [⟨(some 10), none, (.int2 .lss .i64 (.tmp 9) (.tmp 8))⟩]) (.seq (.cond (.tmp 10) .skip (.exit 0)) (.seq (.block 1 (.seq (.ops [⟨(some 11), none, (.ins (.iaddrS 9 (.tmp 7) (.tmp 9)))⟩, ⟨(some 12), none, (.ins (.loadN 9 (.tmp 11)))⟩, ⟨(some 5), none, (.ins (.new [(.int .i64 0), (.int .i64 0), (.int .i64 0), (.int .i64 0), (.int .u64 0), (.int .u64 0), (.int .u64 0), (.int .u64 0), (.slice none 0 0)] 47))⟩, ⟨none, none, (.ins (.store 9 (.tmp 5) (.tmp 12)))⟩]) (.ops [⟨(some 13), none, (.ins (.mv (.tmp 3)))⟩, ⟨(some 14), none, (.ins (.loadN 9 (.tmp 5)))⟩, ⟨(some 15), none, (.ins (.call 62 [(.tmp 14)]))⟩, ⟨(some 16), none, (.int2 .add .i64 (.tmp 13) (.tmp 15))⟩, ⟨(some 3), none, (.ins (.mv (.tmp 16)))⟩]))) (.ops [⟨(some 17), none, (.int2 .add .i64 (.tmp 9) (.const (.int .i64 1)))⟩, ⟨(some 9), none, (.ins (.mv (.tmp 17)))⟩]))))
theorem wum : trC Try.prog (whm 0) = wim := by kernel_rfl
noncomputable def whw : RF := ⟨19, (.seq (.ops [⟨(some 1), none, (.ins (.box 47 (.tmp 0)))⟩, ⟨(some 2), none, (.ins (.mv (.const (.int .i64 0))))⟩]) (.seq (.ops [⟨(some 3), none, (.ins (.mv (.const (.int .i64 1))))⟩]) (.seq (.seq (.ops [⟨(some 6), none, (.ins (.faddr 8 (.tmp 1)))⟩, ⟨(some 7), none, (.ins (.load1 (.tmp 6)))⟩, ⟨(some 8), none, (.lenS (.tmp 7))⟩, ⟨(some 9), none, (.ins (.mv (.const (.int .i64 0))))⟩]) (.block 0 (.loop (whm 0)))) (.seq (.ops [⟨(some 18), none, (.ins (.mv (.tmp 3)))⟩, ⟨(some 2), none, (.ins (.mv (.tmp 18)))⟩]) .ret)))), [(.tmp 2)]⟩
theorem wsx : trF Try.prog 62 = some whw := by kernel_rfl
noncomputable def wep (i : Nat) : Code := lp Try.prog 78 i
noncomputable def wkj : RF := ⟨45, (.seq (.ops [⟨(some 3), none, (.ins (.box 47 (.tmp 1)))⟩, ⟨(some 4), none, (.ins (.mv (.const (.bool false))))⟩]) (.seq (.seq (.ops [⟨(some 7), none, (.ins (.mv (.tmp 0)))⟩, ⟨(some 8), none, (.ins (.nilc (.tmp 7)))⟩, ⟨(some 9), none, (.ins (.faddr 0 (.tmp 8)))⟩, ⟨(some 10), none, (.ins (.load1 (.tmp 9)))⟩, ⟨(some 11), none, (.ins (.mv (.tmp 10)))⟩, ⟨(some 12), (some ((some 11), false)), (.ins (.faddr 0 (.tmp 3)))⟩, ⟨(some 13), (some ((some 11), false)), (.ins (.load1 (.tmp 12)))⟩, ⟨(some 14), (some ((some 11), false)), (.int2 .neq .i64 (.tmp 13) (.const (.int .i64 2)))⟩, ⟨(some 15), none, (.ins (.pick (.tmp 11) (.const (.bool true)) (.tmp 14)))⟩]) (.cond (.tmp 15) (.seq (.ops [⟨(some 4), none, (.ins (.mv (.const (.bool true))))⟩]) .ret) .skip)) (.seq (.seq (.ops [⟨(some 16), none, (.ins (.faddr 8 (.tmp 3)))⟩, ⟨(some 17), none, (.ins (.load1 (.tmp 16)))⟩, ⟨(some 18), none, (.lenS (.tmp 17))⟩, ⟨(some 19), none, (.ins (.mv (.const (.int .i64 0))))⟩]) (.block 0 (.loop (wep 0)))) (.seq (.ops [⟨(some 4), none, (.ins (.mv (.const (.bool true))))⟩]) .ret)))), [(.tmp 4)]⟩
theorem wjm : trF Try.prog 78 = some wkj := by kernel_rfl
noncomputable def wug (i : Nat) : Code := lp Try.prog 79 i
noncomputable def wpe : RC := (.seq (.ops [⟨(some 80), none, (.int2 .lss .i64 (.tmp 79) (.tmp 78))⟩]) (.seq (.cond (.tmp 80) .skip (.exit 1)) (.seq (.block 2 (.seq (.ops [⟨(some 81), none, (.ins (.iaddrS 9 (.tmp 77) (.tmp 79)))⟩, ⟨(some 82), none, (.ins (.loadN 9 (.tmp 81)))⟩, ⟨(some 8), none, (.ins (.new [(.int .i64 0), (.int .i64 0), (.int .i64 0), (.int .i64 0), (.int .u64 0), (.int .u64 0), (.int .u64 0), (.int .u64 0), (.slice none 0 0)] 47))⟩, ⟨none, none, (.ins (.store 9 (.tmp 8) (.tmp 82)))⟩]) (.seq (.ops [⟨(some 83), none, (.ins (.mv (.tmp 0)))⟩, ⟨(some 84), none, (.ins (.loadN 9 (.tmp 8)))⟩, ⟨(some 85), none, (.ins (.mv (.tmp 2)))⟩, ⟨(some 86), none, (.ins (.call 79 [(.tmp 83), (.tmp 84), (.tmp 85)]))⟩, ⟨(some 87), none, (.un .not (.tmp 86))⟩]) (.cond (.tmp 87) (.seq (.ops [⟨(some 6), none, (.ins (.mv (.const (.bool false))))⟩]) .ret) .skip)))) (.ops [⟨(some 88), none, (.int2 .add .i64 (.tmp 79) (.const (.int .i64 1)))⟩, ⟨(some 79), none, (.ins (.mv (.tmp 88)))⟩]))))
theorem wse : trC Try.prog (wug 0) = wpe := by kernel_rfl
noncomputable def wfl : RF := ⟨89, (.seq (.ops [⟨(some 4), none, (.ins (.box 47 (.tmp 1)))⟩, ⟨(some 6), none, (.ins (.mv (.const (.bool false))))⟩]) (.seq (.seq (.ops [⟨(some 9), none, (.ins (.loadN 9 (.tmp 4)))⟩, ⟨(some 10), none, (.ins (.call 96 [(.tmp 9)]))⟩, ⟨(some 11), none, (.un .not (.tmp 10))⟩, ⟨(some 12), none, (.ins (.mv (.tmp 11)))⟩, ⟨(some 13), (some ((some 12), false)), (.ins (.loadN 9 (.tmp 4)))⟩, ⟨(some 14), (some ((some 12), false)), (.ins (.call 97 [(.tmp 13)]))⟩, ⟨(some 15), (some ((some 12), false)), (.un .not (.tmp 14))⟩, ⟨(some 16), none, (.ins (.pick (.tmp 12) (.const (.bool true)) (.tmp 15)))⟩, ⟨(some 17), none, (.ins (.mv (.tmp 16)))⟩, ⟨(some 18), (some ((some 17), false)), (.ins (.faddr 0 (.tmp 4)))⟩, ⟨(some 19), (some ((some 17), false)), (.ins (.load1 (.tmp 18)))⟩, ⟨(some 20), (some ((some 17), false)), (.int2 .eql .i64 (.tmp 19) (.const (.int .i64 3)))⟩, ⟨(some 21), (some ((some 17), false)), (.ins (.mv (.tmp 20)))⟩, ⟨(some 22), (some ((some 21), true)), (.ins (.mv (.tmp 0)))⟩, ⟨(some 23), (some ((some 21), true)), (.ins (.nilc (.tmp 22)))⟩, ⟨(some 24), (some ((some 21), true)), (.ins (.faddr 0 (.tmp 23)))⟩, ⟨(some 25), (some ((some 21), true)), (.ins (.load1 (.tmp 24)))⟩, ⟨(some 26), (some ((some 21), true)), (.un .not (.tmp 25))⟩, ⟨(some 27), (some ((some 17), false)), (.ins (.pick (.tmp 21) (.tmp 26) (.const (.bool false))))⟩, ⟨(some 28), none, (.ins (.pick (.tmp 17) (.const (.bool true)) (.tmp 27)))⟩]) (.cond (.tmp 28) (.seq (.ops [⟨(some 6), none, (.ins (.mv (.const (.bool false))))⟩]) .ret) .skip)) (.seq (.seq (.ops [⟨(some 29), none, (.ins (.faddr 0 (.tmp 4)))⟩, ⟨(some 30), none, (.ins (.load1 (.tmp 29)))⟩]) (.block 0 (.seq (.ops [⟨(some 32), none, (.int2 .eql .i64 (.tmp 30) (.const (.int .i64 5)))⟩, ⟨(some 31), none, (.ins (.mv (.tmp 32)))⟩]) (.cond (.tmp 31) (.seq (.ops [⟨(some 33), none, (.ins (.mv (.tmp 0)))⟩, ⟨(some 34), none, (.ins (.nilc (.tmp 33)))⟩, ⟨(some 35), none, (.ins (.faddr 1 (.tmp 34)))⟩, ⟨(some 36), none, (.ins (.load1 (.tmp 35)))⟩, ⟨(some 37), none, (.int2 .add .i64 (.tmp 36) (.const (.int .i64 1)))⟩, ⟨(some 38), none, (.ins (.nilc (.tmp 33)))⟩, ⟨(some 39), none, (.ins (.faddr 1 (.tmp 38)))⟩, ⟨none, none, (.ins (.store 1 (.tmp 39) (.tmp 37)))⟩]) (.seq (.ops [⟨(some 40), none, (.ins (.mv (.tmp 2)))⟩, ⟨(some 41), none, (.int2 .add .i64 (.tmp 40) (.const (.int .i64 1)))⟩, ⟨(some 2), none, (.ins (.mv (.tmp 41)))⟩]) (.seq (.draw #[0, 1, 0, 4, 12, 28, 63, 127, 255, 511, 1023, 2047, 4095, 4095, 12287, 28671, 61439, 131071, 262143, 524287] [⟨(some 42), none, (.ins (.faddr 3 (.tmp 4)))⟩, ⟨(some 43), none, (.ins (.load1 (.tmp 42)))⟩, ⟨(some 44), none, (.ins (.mv (.tmp 0)))⟩, ⟨(some 45), none, (.ins (.nilc (.tmp 44)))⟩, ⟨(some 46), none, (.ins (.faddr 1 (.tmp 45)))⟩, ⟨(some 47), none, (.ins (.load1 (.tmp 46)))⟩, ⟨(some 48), none, (.int2 .neq .i64 (.tmp 43) (.tmp 47))⟩, ⟨(some 49), none, (.ins (.mv (.tmp 48)))⟩, ⟨(some 50), (some ((some 49), false)), (.ins (.mv (.tmp 2)))⟩, ⟨(some 51), (some ((some 49), false)), (.int2 .gtr .i64 (.tmp 50) (.const (.int .i64 6)))⟩, ⟨(some 52), none, (.ins (.pick (.tmp 49) (.const (.bool true)) (.tmp 51)))⟩, ⟨(some 53), none, (.ins (.mv (.tmp 52)))⟩, ⟨(some 54), (some ((some 53), false)), (.ins (.mv (.tmp 0)))⟩, ⟨(some 55), (some ((some 53), false)), (.ins (.faddr 8 (.tmp 4)))⟩, ⟨(some 56), (some ((some 53), false)), (.ins (.load1 (.tmp 55)))⟩, ⟨(some 57), (some ((some 53), false)), (.ins (.iaddrS 9 (.tmp 56) (.const (.int .i64 0))))⟩, ⟨(some 58), (some ((some 53), false)), (.ins (.loadN 9 (.tmp 57)))⟩, ⟨(some 59), (some ((some 53), false)), (.ins (.call 78 [(.tmp 54), (.tmp 58)]))⟩, ⟨(some 60), (some ((some 53), false)), (.un .not (.tmp 59))⟩, ⟨(some 61), none, (.ins (.pick (.tmp 53) (.const (.bool true)) (.tmp 60)))⟩]) (.cond (.tmp 61) (.seq (.ops [⟨(some 6), none, (.ins (.mv (.const (.bool false))))⟩]) .ret) .skip)))) (.seq (.ops [⟨(some 63), none, (.int2 .eql .i64 (.tmp 30) (.const (.int .i64 6)))⟩, ⟨(some 62), none, (.ins (.mv (.tmp 63)))⟩]) (.cond (.tmp 62) (.seq (.draw #[0, 1, 3, 7, 15, 31, 15, 79, 207, 463, 1023, 2047, 4095] [⟨(some 64), none, (.ins (.faddr 3 (.tmp 4)))⟩, ⟨(some 65), none, (.ins (.load1 (.tmp 64)))⟩, ⟨(some 66), none, (.int2 .geq .i64 (.tmp 65) (.const (.int .i64 1)))⟩, ⟨(some 67), none, (.ins (.mv (.tmp 66)))⟩, ⟨(some 68), (some ((some 67), true)), (.ins (.faddr 3 (.tmp 4)))⟩, ⟨(some 69), (some ((some 67), true)), (.ins (.load1 (.tmp 68)))⟩, ⟨(some 70), (some ((some 67), true)), (.ins (.mv (.tmp 0)))⟩, ⟨(some 71), (some ((some 67), true)), (.ins (.nilc (.tmp 70)))⟩, ⟨(some 72), (some ((some 67), true)), (.ins (.faddr 1 (.tmp 71)))⟩, ⟨(some 73), (some ((some 67), true)), (.ins (.load1 (.tmp 72)))⟩, ⟨(some 74), (some ((some 67), true)), (.int2 .leq .i64 (.tmp 69) (.tmp 73))⟩, ⟨(some 75), none, (.ins (.pick (.tmp 67) (.tmp 74) (.const (.bool false))))⟩, ⟨(some 6), none, (.ins (.mv (.tmp 75)))⟩]) .ret) .skip)))))) (.seq (.seq (.ops [⟨(some 76), none, (.ins (.faddr 8 (.tmp 4)))⟩, ⟨(some 77), none, (.ins (.load1 (.tmp 76)))⟩, ⟨(some 78), none, (.lenS (.tmp 77))⟩, ⟨(some 79), none, (.ins (.mv (.const (.int .i64 0))))⟩]) (.block 1 (.loop (wug 0)))) (.seq (.ops [⟨(some 6), none, (.ins (.mv (.const (.bool true))))⟩]) .ret))))), [(.tmp 6)]⟩
theorem wfp : trF Try.prog 79 = some wfl := by kernel_rfl
noncomputable def wez : RF := ⟨40, (.seq (.ops [⟨(some 1), none, (.ins (.box 47 (.tmp 0)))⟩, ⟨(some 2), none, (.ins (.mv (.const (.bool false))))⟩]) (.seq (.seq (.ops [⟨(some 3), none, (.ins (.faddr 0 (.tmp 1)))⟩, ⟨(some 4), none, (.ins (.load1 (.tmp 3)))⟩, ⟨(some 5), none, (.int2 .neq .i64 (.tmp 4) (.const (.int .i64 1)))⟩, ⟨(some 6), none, (.ins (.mv (.tmp 5)))⟩, ⟨(some 7), (some ((some 6), true)), (.ins (.faddr 4 (.tmp 1)))⟩, ⟨(some 8), (some ((some 6), true)), (.ins (.loadN 4 (.tmp 7)))⟩, ⟨(some 9), (some ((some 6), true)), (.ins (.build [(.int .u64 0), (.int .u64 0), (.int .u64 0), (.int .u64 0)] []))⟩, ⟨(some 10), (some ((some 6), true)), (.eqc true [(.int .u64), (.int .u64), (.int .u64), (.int .u64)] (.tmp 8) (.tmp 9))⟩, ⟨(some 11), none, (.ins (.pick (.tmp 6) (.tmp 10) (.const (.bool false))))⟩, ⟨(some 12), none, (.ins (.mv (.tmp 11)))⟩, ⟨(some 13), (some ((some 12), false)), (.ins (.faddr 0 (.tmp 1)))⟩, ⟨(some 14), (some ((some 12), false)), (.ins (.load1 (.tmp 13)))⟩, ⟨(some 15), (some ((some 12), false)), (.int2 .neq .i64 (.tmp 14) (.const (.int .i64 4)))⟩, ⟨(some 16), (some ((some 12), false)), (.ins (.mv (.tmp 15)))⟩, ⟨(some 17), (some ((some 16), true)), (.ins (.faddr 1 (.tmp 1)))⟩, ⟨(some 18), (some ((some 16), true)), (.ins (.load1 (.tmp 17)))⟩, ⟨(some 19), (some ((some 16), true)), (.int2 .neq .i64 (.tmp 18) (.const (.int .i64 0)))⟩, ⟨(some 20), (some ((some 16), true)), (.ins (.mv (.tmp 19)))⟩, ⟨(some 21), (some ((some 20), false)), (.ins (.faddr 2 (.tmp 1)))⟩, ⟨(some 22), (some ((some 20), false)), (.ins (.load1 (.tmp 21)))⟩, ⟨(some 23), (some ((some 20), false)), (.int2 .neq .i64 (.tmp 22) (.const (.int .i64 0)))⟩, ⟨(some 24), (some ((some 16), true)), (.ins (.pick (.tmp 20) (.const (.bool true)) (.tmp 23)))⟩, ⟨(some 25), (some ((some 12), false)), (.ins (.pick (.tmp 16) (.tmp 24) (.const (.bool false))))⟩, ⟨(some 26), none, (.ins (.pick (.tmp 12) (.const (.bool true)) (.tmp 25)))⟩]) (.cond (.tmp 26) (.seq (.ops [⟨(some 2), none, (.ins (.mv (.const (.bool false))))⟩]) .ret) .skip)) (.seq (.ops [⟨(some 27), none, (.ins (.faddr 0 (.tmp 1)))⟩, ⟨(some 28), none, (.ins (.load1 (.tmp 27)))⟩, ⟨(some 29), none, (.int2 .eql .i64 (.tmp 28) (.const (.int .i64 5)))⟩, ⟨(some 30), none, (.ins (.mv (.tmp 29)))⟩, ⟨(some 31), (some ((some 30), false)), (.ins (.faddr 0 (.tmp 1)))⟩, ⟨(some 32), (some ((some 30), false)), (.ins (.load1 (.tmp 31)))⟩, ⟨(some 33), (some ((some 30), false)), (.int2 .eql .i64 (.tmp 32) (.const (.int .i64 6)))⟩, ⟨(some 34), none, (.ins (.pick (.tmp 30) (.const (.bool true)) (.tmp 33)))⟩, ⟨(some 35), none, (.ins (.mv (.tmp 34)))⟩, ⟨(some 36), (some ((some 35), false)), (.ins (.faddr 3 (.tmp 1)))⟩, ⟨(some 37), (some ((some 35), false)), (.ins (.load1 (.tmp 36)))⟩, ⟨(some 38), (some ((some 35), false)), (.int2 .eql .i64 (.tmp 37) (.const (.int .i64 0)))⟩, ⟨(some 39), none, (.ins (.pick (.tmp 35) (.const (.bool true)) (.tmp 38)))⟩, ⟨(some 2), none, (.ins (.mv (.tmp 39)))⟩]) .ret))), [(.tmp 2)]⟩
theorem wybb : trF Try.prog 96 = some wez := by kernel_rfl
noncomputable def wfz : RF := ⟨65, (.seq (.ops [⟨(some 1), none, (.ins (.box 47 (.tmp 0)))⟩, ⟨(some 2), none, (.ins (.mv (.const (.bool false))))⟩]) (.seq (.ops [⟨(some 4), none, (.ins (.faddr 8 (.tmp 1)))⟩, ⟨(some 5), none, (.ins (.load1 (.tmp 4)))⟩, ⟨(some 6), none, (.lenS (.tmp 5))⟩, ⟨(some 3), none, (.ins (.mv (.tmp 6)))⟩]) (.seq (.seq (.ops [⟨(some 7), none, (.ins (.faddr 0 (.tmp 1)))⟩, ⟨(some 8), none, (.ins (.load1 (.tmp 7)))⟩]) (.block 0 (.seq (.ops [⟨(some 10), none, (.int2 .eql .i64 (.tmp 8) (.const (.int .i64 1)))⟩, ⟨(some 9), none, (.ins (.mv (.tmp 10)))⟩]) (.cond (.tmp 9) (.seq (.ops [⟨(some 11), none, (.ins (.mv (.tmp 3)))⟩, ⟨(some 12), none, (.int2 .eql .i64 (.tmp 11) (.const (.int .i64 0)))⟩, ⟨(some 13), none, (.ins (.mv (.tmp 12)))⟩, ⟨(some 14), (some ((some 13), true)), (.ins (.faddr 4 (.tmp 1)))⟩, ⟨(some 15), (some ((some 13), true)), (.ins (.loadN 4 (.tmp 14)))⟩, ⟨(some 16), (some ((some 13), true)), (.ins (.build [(.int .u64 0), (.int .u64 0), (.int .u64 0), (.int .u64 0)] []))⟩, ⟨(some 17), (some ((some 13), true)), (.eqc true [(.int .u64), (.int .u64), (.int .u64), (.int .u64)] (.tmp 15) (.tmp 16))⟩, ⟨(some 18), none, (.ins (.pick (.tmp 13) (.tmp 17) (.const (.bool false))))⟩, ⟨(some 2), none, (.ins (.mv (.tmp 18)))⟩]) .ret) (.seq (.ops [⟨(some 20), none, (.int2 .eql .i64 (.tmp 8) (.const (.int .i64 2)))⟩, ⟨(some 19), none, (.ins (.mv (.tmp 20)))⟩]) (.cond (.tmp 19) (.seq (.ops [⟨(some 21), none, (.ins (.mv (.tmp 3)))⟩, ⟨(some 22), none, (.int2 .neq .i64 (.tmp 21) (.const (.int .i64 1)))⟩, ⟨(some 23), none, (.ins (.mv (.tmp 22)))⟩, ⟨(some 24), (some ((some 23), true)), (.ins (.faddr 8 (.tmp 1)))⟩, ⟨(some 25), (some ((some 23), true)), (.ins (.load1 (.tmp 24)))⟩, ⟨(some 26), (some ((some 23), true)), (.ins (.bslice 3 2 [(.int .i64 0), (.int .i64 0)] [(0, (1, (.const (.int .i64 2)))), (1, (1, (.const (.int .i64 3))))]))⟩, ⟨(some 27), (some ((some 23), true)), (.ins (.call 127 [(.tmp 25), (.tmp 26)]))⟩, ⟨(some 28), (some ((some 23), true)), (.un .not (.tmp 27))⟩, ⟨(some 29), none, (.ins (.pick (.tmp 23) (.tmp 28) (.const (.bool false))))⟩, ⟨(some 2), none, (.ins (.mv (.tmp 29)))⟩]) .ret) (.seq (.ops [⟨(some 31), none, (.int2 .eql .i64 (.tmp 8) (.const (.int .i64 3)))⟩, ⟨(some 30), none, (.ins (.mv (.tmp 31)))⟩]) (.cond (.tmp 30) (.seq (.ops [⟨(some 32), none, (.ins (.mv (.tmp 3)))⟩, ⟨(some 33), none, (.int2 .geq .i64 (.tmp 32) (.const (.int .i64 2)))⟩, ⟨(some 34), none, (.ins (.mv (.tmp 33)))⟩, ⟨(some 35), (some ((some 34), true)), (.ins (.faddr 8 (.tmp 1)))⟩, ⟨(some 36), (some ((some 34), true)), (.ins (.load1 (.tmp 35)))⟩, ⟨(some 37), (some ((some 34), true)), (.ins (.bslice 3 1 [(.int .i64 0)] [(0, (1, (.const (.int .i64 3))))]))⟩, ⟨(some 38), (some ((some 34), true)), (.ins (.call 127 [(.tmp 36), (.tmp 37)]))⟩, ⟨(some 39), (some ((some 34), true)), (.un .not (.tmp 38))⟩, ⟨(some 40), none, (.ins (.pick (.tmp 34) (.tmp 39) (.const (.bool false))))⟩, ⟨(some 2), none, (.ins (.mv (.tmp 40)))⟩]) .ret) (.seq (.ops [⟨(some 42), none, (.int2 .eql .i64 (.tmp 8) (.const (.int .i64 4)))⟩, ⟨(some 41), none, (.ins (.mv (.tmp 42)))⟩]) (.cond (.tmp 41) (.seq (.ops [⟨(some 43), none, (.ins (.mv (.tmp 3)))⟩, ⟨(some 44), none, (.int2 .eql .i64 (.tmp 43) (.const (.int .i64 1)))⟩, ⟨(some 45), none, (.ins (.mv (.tmp 44)))⟩, ⟨(some 46), (some ((some 45), true)), (.ins (.faddr 8 (.tmp 1)))⟩, ⟨(some 47), (some ((some 45), true)), (.ins (.load1 (.tmp 46)))⟩, ⟨(some 48), (some ((some 45), true)), (.ins (.bslice 3 3 [(.int .i64 0), (.int .i64 0), (.int .i64 0)] [(0, (1, (.const (.int .i64 1)))), (1, (1, (.const (.int .i64 5)))), (2, (1, (.const (.int .i64 6))))]))⟩, ⟨(some 49), (some ((some 45), true)), (.ins (.call 127 [(.tmp 47), (.tmp 48)]))⟩, ⟨(some 50), none, (.ins (.pick (.tmp 45) (.tmp 49) (.const (.bool false))))⟩, ⟨(some 51), none, (.ins (.mv (.tmp 50)))⟩, ⟨(some 52), (some ((some 51), true)), (.ins (.loadN 9 (.tmp 1)))⟩, ⟨(some 53), (some ((some 51), true)), (.ins (.call 128 [(.tmp 52)]))⟩, ⟨(some 54), none, (.ins (.pick (.tmp 51) (.tmp 53) (.const (.bool false))))⟩, ⟨(some 2), none, (.ins (.mv (.tmp 54)))⟩]) .ret) (.seq (.ops [⟨(some 56), none, (.int2 .eql .i64 (.tmp 8) (.const (.int .i64 5)))⟩, ⟨(some 55), none, (.ins (.mv (.tmp 56)))⟩]) (.cond (.tmp 55) (.seq (.ops [⟨(some 57), none, (.ins (.mv (.tmp 3)))⟩, ⟨(some 58), none, (.int2 .eql .i64 (.tmp 57) (.const (.int .i64 1)))⟩, ⟨(some 2), none, (.ins (.mv (.tmp 58)))⟩]) .ret) (.seq (.seq (.ops [⟨(some 60), none, (.int2 .eql .i64 (.tmp 8) (.const (.int .i64 6)))⟩, ⟨(some 59), none, (.ins (.mv (.tmp 60)))⟩]) (.cond (.tmp 59) .skip (.seq (.ops [⟨(some 61), none, (.int2 .eql .i64 (.tmp 8) (.const (.int .i64 7)))⟩, ⟨(some 59), none, (.ins (.mv (.tmp 61)))⟩]) (.cond (.tmp 59) .skip (.ops [⟨(some 62), none, (.int2 .eql .i64 (.tmp 8) (.const (.int .i64 8)))⟩, ⟨(some 59), none, (.ins (.mv (.tmp 62)))⟩]))))) (.cond (.tmp 59) (.seq (.ops [⟨(some 63), none, (.ins (.mv (.tmp 3)))⟩, ⟨(some 64), none, (.int2 .eql .i64 (.tmp 63) (.const (.int .i64 0)))⟩, ⟨(some 2), none, (.ins (.mv (.tmp 64)))⟩]) .ret) .skip)))))))))))))) (.seq (.ops [⟨(some 2), none, (.ins (.mv (.const (.bool false))))⟩]) .ret)))), [(.tmp 2)]⟩
theorem wzbb : trF Try.prog 97 = some wfz := by kernel_rfl
noncomputable def wiw : RF := ⟨14, (.seq (.ops [⟨(some 2), none, (.ins (.box 44 (.tmp 0)))⟩, ⟨(some 4), none, (.ins (.mv (.const (.bool false))))⟩]) (.seq (.ops [⟨(some 5), none, (.ins (.mv (.tmp 1)))⟩, ⟨(some 6), none, (.int2 .quo .u8 (.tmp 5) (.const (.int .u8 64)))⟩, ⟨(some 7), none, (.ins (.iaddrA 4 1 (.tmp 2) (.tmp 6)))⟩, ⟨(some 8), none, (.ins (.load1 (.tmp 7)))⟩, ⟨(some 9), none, (.ins (.mv (.tmp 1)))⟩, ⟨(some 10), none, (.int2 .rem .u8 (.tmp 9) (.const (.int .u8 64)))⟩, ⟨(some 11), none, (.shift .shr (.tmp 8) (.tmp 10))⟩, ⟨(some 12), none, (.int2 .and .u64 (.tmp 11) (.const (.int .u64 1)))⟩, ⟨(some 13), none, (.int2 .eql .u64 (.tmp 12) (.const (.int .u64 1)))⟩, ⟨(some 4), none, (.ins (.mv (.tmp 13)))⟩]) .ret)), [(.tmp 4)]⟩
theorem wtx : trF Try.prog 83 = some wiw := by kernel_rfl
noncomputable def wzfb : RF := ⟨8, (.seq (.ops [⟨(some 3), none, (.ins (.box 39 (.tmp 1)))⟩, ⟨(some 4), none, (.ins (.mv (.const (.bool false))))⟩]) (.seq (.ops [⟨(some 5), none, (.ins (.mv (.tmp 0)))⟩, ⟨(some 6), none, (.ins (.mkfn (.func 148) [] [(.tmp 3)]))⟩, ⟨(some 7), none, (.ins (.call 147 [(.tmp 5), (.tmp 6)]))⟩, ⟨(some 4), none, (.ins (.mv (.tmp 7)))⟩]) .ret)), [(.tmp 4)]⟩
theorem wagb : trF Try.prog 127 = some wzfb := by kernel_rfl
noncomputable def wbgb : RF := ⟨29, (.seq (.ops [⟨(some 1), none, (.ins (.box 47 (.tmp 0)))⟩, ⟨(some 2), none, (.ins (.mv (.const (.bool false))))⟩]) (.seq (.ops [⟨(some 3), none, (.ins (.faddr 1 (.tmp 1)))⟩, ⟨(some 4), none, (.ins (.load1 (.tmp 3)))⟩, ⟨(some 5), none, (.int2 .geq .i64 (.tmp 4) (.const (.int .i64 0)))⟩, ⟨(some 6), none, (.ins (.mv (.tmp 5)))⟩, ⟨(some 7), (some ((some 6), true)), (.ins (.faddr 1 (.tmp 1)))⟩, ⟨(some 8), (some ((some 6), true)), (.ins (.load1 (.tmp 7)))⟩, ⟨(some 9), (some ((some 6), true)), (.int2 .leq .i64 (.tmp 8) (.const (.int .i64 20)))⟩, ⟨(some 10), none, (.ins (.pick (.tmp 6) (.tmp 9) (.const (.bool false))))⟩, ⟨(some 11), none, (.ins (.mv (.tmp 10)))⟩, ⟨(some 12), (some ((some 11), true)), (.ins (.faddr 2 (.tmp 1)))⟩, ⟨(some 13), (some ((some 11), true)), (.ins (.load1 (.tmp 12)))⟩, ⟨(some 14), (some ((some 11), true)), (.int2 .eql .i64 (.tmp 13) (.const (.int .i64 (-1))))⟩, ⟨(some 15), (some ((some 11), true)), (.ins (.mv (.tmp 14)))⟩, ⟨(some 16), (some ((some 15), false)), (.ins (.faddr 2 (.tmp 1)))⟩, ⟨(some 17), (some ((some 15), false)), (.ins (.load1 (.tmp 16)))⟩, ⟨(some 18), (some ((some 15), false)), (.ins (.faddr 1 (.tmp 1)))⟩, ⟨(some 19), (some ((some 15), false)), (.ins (.load1 (.tmp 18)))⟩, ⟨(some 20), (some ((some 15), false)), (.mm true (.tmp 19) [(.const (.int .i64 1))])⟩, ⟨(some 21), (some ((some 15), false)), (.int2 .geq .i64 (.tmp 17) (.tmp 20))⟩, ⟨(some 22), (some ((some 15), false)), (.ins (.mv (.tmp 21)))⟩, ⟨(some 23), (some ((some 22), true)), (.ins (.faddr 2 (.tmp 1)))⟩, ⟨(some 24), (some ((some 22), true)), (.ins (.load1 (.tmp 23)))⟩, ⟨(some 25), (some ((some 22), true)), (.int2 .leq .i64 (.tmp 24) (.const (.int .i64 20)))⟩, ⟨(some 26), (some ((some 15), false)), (.ins (.pick (.tmp 22) (.tmp 25) (.const (.bool false))))⟩, ⟨(some 27), (some ((some 11), true)), (.ins (.pick (.tmp 15) (.const (.bool true)) (.tmp 26)))⟩, ⟨(some 28), none, (.ins (.pick (.tmp 11) (.tmp 27) (.const (.bool false))))⟩, ⟨(some 2), none, (.ins (.mv (.tmp 28)))⟩]) .ret)), [(.tmp 2)]⟩
theorem wcgb : trF Try.prog 128 = some wbgb := by kernel_rfl
noncomputable def whe : RF := ⟨9, (.seq (.ops [⟨(some 4), none, (.ins (.mv (.const (.bool false))))⟩]) (.seq (.ops [⟨(some 5), none, (.ins (.mv (.tmp 0)))⟩, ⟨(some 6), none, (.ins (.mv (.tmp 1)))⟩, ⟨(some 7), none, (.ins (.call 157 [(.tmp 5), (.tmp 6)]))⟩, ⟨(some 8), none, (.int2 .geq .i64 (.tmp 7) (.const (.int .i64 0)))⟩, ⟨(some 4), none, (.ins (.mv (.tmp 8)))⟩]) .ret)), [(.tmp 4)]⟩
theorem wpg : trF Try.prog 147 = some whe := by kernel_rfl
noncomputable def wjw : RF := ⟨8, (.seq (.ops [⟨(some 2), none, (.ins (.box 47 (.tmp 0)))⟩, ⟨(some 3), none, (.ins (.mv (.const (.bool false))))⟩]) (.seq (.ops [⟨(some 4), none, (.ins (.load1 (.tmp 1)))⟩, ⟨(some 5), none, (.ins (.faddr 0 (.tmp 2)))⟩, ⟨(some 6), none, (.ins (.load1 (.tmp 5)))⟩, ⟨(some 7), none, (.ins (.call 149 [(.tmp 4), (.tmp 6)]))⟩, ⟨(some 3), none, (.ins (.mv (.tmp 7)))⟩]) .ret)), [(.tmp 3)]⟩
theorem wux : trF Try.prog 148 = some wjw := by kernel_rfl
noncomputable def wyg : RF := ⟨9, (.seq (.ops [⟨(some 4), none, (.ins (.mv (.const (.bool false))))⟩]) (.seq (.ops [⟨(some 5), none, (.ins (.mv (.tmp 0)))⟩, ⟨(some 6), none, (.ins (.mv (.tmp 1)))⟩, ⟨(some 7), none, (.ins (.call 158 [(.tmp 5), (.tmp 6)]))⟩, ⟨(some 8), none, (.int2 .geq .i64 (.tmp 7) (.const (.int .i64 0)))⟩, ⟨(some 4), none, (.ins (.mv (.tmp 8)))⟩]) .ret)), [(.tmp 4)]⟩
theorem wfj : trF Try.prog 149 = some wyg := by kernel_rfl
noncomputable def wad (i : Nat) : Code := lp Try.prog 157 i
noncomputable def wmc : RC := (.seq (.ops [⟨(some 9), none, (.int2 .lss .i64 (.tmp 8) (.tmp 7))⟩]) (.seq (.cond (.tmp 9) .skip (.exit 0)) (.seq (.block 1 (.seq (.ops [⟨(some 10), none, (.ins (.mv (.tmp 8)))⟩, ⟨(some 5), none, (.ins (.mv (.tmp 10)))⟩]) (.seq (.ops [⟨(some 11), none, (.ins (.mv (.tmp 1)))⟩, ⟨(some 12), none, (.ins (.mv (.tmp 0)))⟩, ⟨(some 13), none, (.ins (.mv (.tmp 5)))⟩, ⟨(some 14), none, (.ins (.iaddrS 9 (.tmp 12) (.tmp 13)))⟩, ⟨(some 15), none, (.ins (.loadN 9 (.tmp 14)))⟩, ⟨(some 16), none, (.ins (.dyn (.tmp 11) [(.tmp 15)]))⟩]) (.cond (.tmp 16) (.seq (.ops [⟨(some 17), none, (.ins (.mv (.tmp 5)))⟩, ⟨(some 4), none, (.ins (.mv (.tmp 17)))⟩]) .ret) .skip)))) (.ops [⟨(some 18), none, (.int2 .add .i64 (.tmp 8) (.const (.int .i64 1)))⟩, ⟨(some 8), none, (.ins (.mv (.tmp 18)))⟩]))))
theorem wqc : trC Try.prog (wad 0) = wmc := by kernel_rfl
noncomputable def wgf : RF := ⟨19, (.seq (.ops [⟨(some 4), none, (.ins (.mv (.const (.int .i64 0))))⟩]) (.seq (.seq (.ops [⟨(some 6), none, (.ins (.mv (.tmp 0)))⟩, ⟨(some 7), none, (.lenS (.tmp 6))⟩, ⟨(some 8), none, (.ins (.mv (.const (.int .i64 0))))⟩]) (.block 0 (.loop (wad 0)))) (.seq (.ops [⟨(some 4), none, (.ins (.mv (.const (.int .i64 (-1)))))⟩]) .ret))), [(.tmp 4)]⟩
theorem wgh : trF Try.prog 157 = some wgf := by kernel_rfl
noncomputable def wfe (i : Nat) : Code := lp Try.prog 158 i
noncomputable def wgd : RC := (.seq (.ops [⟨(some 9), none, (.int2 .lss .i64 (.tmp 8) (.tmp 7))⟩]) (.seq (.cond (.tmp 9) .skip (.exit 0)) (.seq (.block 1 (.seq (.ops [⟨(some 10), none, (.ins (.mv (.tmp 8)))⟩, ⟨(some 5), none, (.ins (.mv (.tmp 10)))⟩]) (.seq (.ops [⟨(some 11), none, (.ins (.mv (.tmp 1)))⟩, ⟨(some 12), none, (.ins (.mv (.tmp 0)))⟩, ⟨(some 13), none, (.ins (.mv (.tmp 5)))⟩, ⟨(some 14), none, (.ins (.iaddrS 1 (.tmp 12) (.tmp 13)))⟩, ⟨(some 15), none, (.ins (.load1 (.tmp 14)))⟩, ⟨(some 16), none, (.int2 .eql .i64 (.tmp 11) (.tmp 15))⟩]) (.cond (.tmp 16) (.seq (.ops [⟨(some 17), none, (.ins (.mv (.tmp 5)))⟩, ⟨(some 4), none, (.ins (.mv (.tmp 17)))⟩]) .ret) .skip)))) (.ops [⟨(some 18), none, (.int2 .add .i64 (.tmp 8) (.const (.int .i64 1)))⟩, ⟨(some 8), none, (.ins (.mv (.tmp 18)))⟩]))))
theorem wld : trC Try.prog (wfe 0) = wgd := by kernel_rfl
noncomputable def wbi : RF := ⟨19, (.seq (.ops [⟨(some 4), none, (.ins (.mv (.const (.int .i64 0))))⟩]) (.seq (.seq (.ops [⟨(some 6), none, (.ins (.mv (.tmp 0)))⟩, ⟨(some 7), none, (.lenS (.tmp 6))⟩, ⟨(some 8), none, (.ins (.mv (.const (.int .i64 0))))⟩]) (.block 0 (.loop (wfe 0)))) (.seq (.ops [⟨(some 4), none, (.ins (.mv (.const (.int .i64 (-1)))))⟩]) .ret))), [(.tmp 4)]⟩
theorem whk : trF Try.prog 158 = some wbi := by kernel_rfl
noncomputable def wvg (i : Nat) : Code := lp Try.prog 26 i
noncomputable def wnh : RC := (.seq (.seq (.ops [⟨(some 7), none, (.ins (.mv (.tmp 6)))⟩, ⟨(some 8), none, (.ins (.mv (.tmp 0)))⟩, ⟨(some 9), none, (.lenS (.tmp 8))⟩, ⟨(some 10), none, (.int2 .lss .i64 (.tmp 7) (.tmp 9))⟩, ⟨(some 11), none, (.ins (.mv (.tmp 10)))⟩, ⟨(some 12), (some ((some 11), true)), (.ins (.mv (.tmp 6)))⟩, ⟨(some 13), (some ((some 11), true)), (.ins (.mv (.tmp 1)))⟩, ⟨(some 14), (some ((some 11), true)), (.int2 .lss .i64 (.tmp 12) (.tmp 13))⟩, ⟨(some 15), none, (.ins (.pick (.tmp 11) (.tmp 14) (.const (.bool false))))⟩]) (.cond (.tmp 15) .skip (.exit 0))) (.seq (.block 1 (.ops [⟨(some 18), none, (.ins (.mv (.tmp 5)))⟩, ⟨(some 19), none, (.ins (.bslice 5 8 [(.int .u8 0), (.int .u8 0), (.int .u8 0), (.int .u8 0), (.int .u8 0), (.int .u8 0), (.int .u8 0), (.int .u8 0)] [(0, (1, (.const (.int .u8 97)))), (1, (1, (.const (.int .u8 98)))), (2, (1, (.const (.int .u8 97)))), (3, (1, (.const (.int .u8 99)))), (4, (1, (.const (.int .u8 98)))), (5, (1, (.const (.int .u8 46)))), (6, (1, (.const (.int .u8 97)))), (7, (1, (.const (.int .u8 32))))]))⟩, ⟨(some 20), none, (.ins (.mv (.tmp 0)))⟩, ⟨(some 21), none, (.ins (.mv (.tmp 6)))⟩, ⟨(some 22), none, (.ins (.iaddrS 1 (.tmp 20) (.tmp 21)))⟩, ⟨(some 23), none, (.ins (.load1 (.tmp 22)))⟩, ⟨(some 24), none, (.ins (.call 15 [(.tmp 23), (.const (.int .i64 0)), (.const (.int .i64 7))]))⟩, ⟨(some 25), none, (.ins (.iaddrS 1 (.tmp 19) (.tmp 24)))⟩, ⟨(some 26), none, (.ins (.load1 (.tmp 25)))⟩, ⟨(some 27), none, (.ins (.bslice 5 1 [(.int .u8 0)] [(0, (1, (.tmp 26)))]))⟩, ⟨(some 28), none, (.b2s (.tmp 27))⟩, ⟨(some 29), none, (.str2 .add (.tmp 18) (.tmp 28))⟩, ⟨(some 5), none, (.ins (.mv (.tmp 29)))⟩])) (.ops [⟨(some 16), none, (.ins (.mv (.tmp 6)))⟩, ⟨(some 17), none, (.int2 .add .i64 (.tmp 16) (.const (.int .i64 1)))⟩, ⟨(some 6), none, (.ins (.mv (.tmp 17)))⟩])))
theorem wgi : trC Try.prog (wvg 0) = wnh := by kernel_rfl
noncomputable def wgl : RF := ⟨31, (.seq (.ops [⟨(some 4), none, (.ins (.mv (.const (str []))))⟩]) (.seq (.ops [⟨(some 5), none, (.ins (.mv (.const (str []))))⟩]) (.seq (.seq (.ops [⟨(some 6), none, (.ins (.mv (.const (.int .i64 0))))⟩]) (.block 0 (.loop (wvg 0)))) (.seq (.ops [⟨(some 30), none, (.ins (.mv (.tmp 5)))⟩, ⟨(some 4), none, (.ins (.mv (.tmp 30)))⟩]) .ret)))), [(.tmp 4)]⟩
theorem wgp : trF Try.prog 26 = some wgl := by kernel_rfl
noncomputable def whf (i : Nat) : Code := lp Try.prog 38 i
noncomputable def wyf : RC := (.seq (.seq (.ops [⟨(some 11), none, (.ins (.mv (.tmp 5)))⟩, ⟨(some 12), none, (.ins (.mv (.tmp 0)))⟩, ⟨(some 13), none, (.lenS (.tmp 12))⟩, ⟨(some 14), none, (.int2 .lss .i64 (.tmp 11) (.tmp 13))⟩]) (.cond (.tmp 14) .skip (.exit 0))) (.seq (.block 1 (.seq (.draw #[0, 0, 3, 7, 0, 0, 48, 112, 255] [⟨(some 17), none, (.ins (.mv (.tmp 0)))⟩, ⟨(some 18), none, (.ins (.mv (.tmp 5)))⟩, ⟨(some 19), none, (.ins (.iaddrS 1 (.tmp 17) (.tmp 18)))⟩, ⟨(some 20), none, (.ins (.load1 (.tmp 19)))⟩, ⟨(some 21), none, (.ins (.mv (.tmp 1)))⟩, ⟨(some 22), none, (.ins (.mv (.tmp 5)))⟩, ⟨(some 23), none, (.ins (.iaddrS 1 (.tmp 21) (.tmp 22)))⟩, ⟨(some 24), none, (.ins (.load1 (.tmp 23)))⟩, ⟨(some 25), none, (.int2 .neq .i64 (.tmp 20) (.tmp 24))⟩]) (.cond (.tmp 25) (.seq (.ops [⟨(some 4), none, (.ins (.mv (.const (.bool false))))⟩]) .ret) .skip))) (.ops [⟨(some 15), none, (.ins (.mv (.tmp 5)))⟩, ⟨(some 16), none, (.int2 .add .i64 (.tmp 15) (.const (.int .i64 1)))⟩, ⟨(some 5), none, (.ins (.mv (.tmp 16)))⟩])))
theorem wzg : trC Try.prog (whf 0) = wyf := by kernel_rfl
noncomputable def wzi : RF := ⟨26, (.seq (.ops [⟨(some 4), none, (.ins (.mv (.const (.bool false))))⟩]) (.seq (.seq (.ops [⟨(some 6), none, (.ins (.mv (.tmp 0)))⟩, ⟨(some 7), none, (.lenS (.tmp 6))⟩, ⟨(some 8), none, (.ins (.mv (.tmp 1)))⟩, ⟨(some 9), none, (.lenS (.tmp 8))⟩, ⟨(some 10), none, (.int2 .neq .i64 (.tmp 7) (.tmp 9))⟩]) (.cond (.tmp 10) (.seq (.ops [⟨(some 4), none, (.ins (.mv (.const (.bool false))))⟩]) .ret) .skip)) (.seq (.seq (.ops [⟨(some 5), none, (.ins (.mv (.const (.int .i64 0))))⟩]) (.block 0 (.loop (whf 0)))) (.seq (.ops [⟨(some 4), none, (.ins (.mv (.const (.bool true))))⟩]) .ret)))), [(.tmp 4)]⟩
theorem whl : trF Try.prog 38 = some wzi := by kernel_rfl
noncomputable def wz (i : Nat) : Code := lp Try.prog 8 i
noncomputable def wnd : RC := (.seq (.ops [⟨(some 23), none, (.int2 .lss .i64 (.tmp 22) (.tmp 21))⟩]) (.seq (.cond (.tmp 23) .skip (.exit 0)) (.seq (.block 1 (.seq (.ops [⟨(some 24), none, (.ins (.mv (.tmp 22)))⟩, ⟨(some 8), none, (.ins (.mv (.tmp 24)))⟩]) (.ops [⟨(some 25), none, (.ins (.mv (.tmp 7)))⟩, ⟨(some 26), none, (.ins (.mv (.tmp 6)))⟩, ⟨(some 27), none, (.ins (.mv (.tmp 8)))⟩, ⟨(some 28), none, (.sidx (.tmp 26) (.tmp 27))⟩, ⟨(some 29), none, (.ins (.bslice 5 1 [(.int .u8 0)] [(0, (1, (.tmp 28)))]))⟩, ⟨(some 30), none, (.ins (.call 37 [(.tmp 29)]))⟩, ⟨(some 31), none, (.ins (.build [(.int .i64 0), (.int .i64 0), (.int .i64 0), (.int .i64 0), (.int .u64 0), (.int .u64 0), (.int .u64 0), (.int .u64 0), (.slice none 0 0)] [(0, (1, (.const (.int .i64 1)))), (4, (4, (.tmp 30)))]))⟩, ⟨(some 32), none, (.ins (.bslice 47 1 [(.int .i64 0), (.int .i64 0), (.int .i64 0), (.int .i64 0), (.int .u64 0), (.int .u64 0), (.int .u64 0), (.int .u64 0), (.slice none 0 0)] [(0, (9, (.tmp 31)))]))⟩, ⟨(some 33), none, (.ins (.app 47 9 88 (.tmp 25) (.tmp 32)))⟩, ⟨(some 7), none, (.ins (.mv (.tmp 33)))⟩]))) (.ops [⟨(some 34), none, (.int2 .add .i64 (.tmp 22) (.const (.int .i64 1)))⟩, ⟨(some 22), none, (.ins (.mv (.tmp 34)))⟩]))))
theorem wsd : trC Try.prog (wz 0) = wnd := by kernel_rfl
noncomputable def whb : RC := (.seq (.seq (.ops [⟨(some 43), none, (.ins (.mv (.tmp 6)))⟩, ⟨(some 44), none, (.slen (.tmp 43))⟩, ⟨(some 45), none, (.int2 .gtr .i64 (.tmp 44) (.const (.int .i64 0)))⟩, ⟨(some 46), none, (.ins (.mv (.tmp 45)))⟩, ⟨(some 47), (some ((some 46), true)), (.ins (.mv (.tmp 11)))⟩, ⟨(some 48), (some ((some 46), true)), (.ins (.mv (.tmp 6)))⟩, ⟨(some 49), (some ((some 46), true)), (.slen (.tmp 48))⟩, ⟨(some 50), (some ((some 46), true)), (.int2 .add .i64 (.tmp 47) (.tmp 49))⟩, ⟨(some 51), (some ((some 46), true)), (.ins (.mv (.tmp 5)))⟩, ⟨(some 52), (some ((some 46), true)), (.slen (.tmp 51))⟩, ⟨(some 53), (some ((some 46), true)), (.int2 .leq .i64 (.tmp 50) (.tmp 52))⟩, ⟨(some 54), none, (.ins (.pick (.tmp 46) (.tmp 53) (.const (.bool false))))⟩]) (.cond (.tmp 54) .skip (.exit 2))) (.seq (.block 3 (.seq (.ops [⟨(some 57), none, (.ins (.mv (.tmp 5)))⟩, ⟨(some 58), none, (.ins (.mv (.tmp 11)))⟩, ⟨(some 59), none, (.ins (.mv (.tmp 11)))⟩, ⟨(some 60), none, (.ins (.mv (.tmp 6)))⟩, ⟨(some 61), none, (.slen (.tmp 60))⟩, ⟨(some 62), none, (.int2 .add .i64 (.tmp 59) (.tmp 61))⟩, ⟨(some 63), none, (.ssl (.tmp 57) (some (.tmp 58)) (some (.tmp 62)))⟩, ⟨(some 64), none, (.ins (.mv (.tmp 6)))⟩, ⟨(some 65), none, (.str2 .eql (.tmp 63) (.tmp 64))⟩]) (.cond (.tmp 65) (.seq (.ops [⟨(some 66), none, (.ins (.mv (.tmp 10)))⟩, ⟨(some 67), none, (.ins (.mv (.tmp 11)))⟩, ⟨(some 68), none, (.ins (.bslice 3 1 [(.int .i64 0)] [(0, (1, (.tmp 67)))]))⟩, ⟨(some 69), none, (.ins (.app 3 1 8 (.tmp 66) (.tmp 68)))⟩, ⟨(some 10), none, (.ins (.mv (.tmp 69)))⟩]) (.ops [⟨(some 70), none, (.ins (.mv (.tmp 11)))⟩, ⟨(some 71), none, (.ins (.mv (.tmp 6)))⟩, ⟨(some 72), none, (.slen (.tmp 71))⟩, ⟨(some 73), none, (.int2 .add .i64 (.tmp 70) (.tmp 72))⟩, ⟨(some 74), none, (.int2 .sub .i64 (.tmp 73) (.const (.int .i64 1)))⟩, ⟨(some 11), none, (.ins (.mv (.tmp 74)))⟩])) .skip))) (.ops [⟨(some 55), none, (.ins (.mv (.tmp 11)))⟩, ⟨(some 56), none, (.int2 .add .i64 (.tmp 55) (.const (.int .i64 1)))⟩, ⟨(some 11), none, (.ins (.mv (.tmp 56)))⟩])))
theorem wgb : trC Try.prog (wz 1) = whb := by kernel_rfl
noncomputable def wge : RC := (.seq (.seq (.ops [⟨(some 78), none, (.ins (.mv (.tmp 12)))⟩, ⟨(some 79), none, (.ins (.mv (.tmp 5)))⟩, ⟨(some 80), none, (.slen (.tmp 79))⟩, ⟨(some 81), none, (.int2 .leq .i64 (.tmp 78) (.tmp 80))⟩]) (.cond (.tmp 81) .skip (.exit 4))) (.seq (.block 5 (.ops [⟨(some 84), none, (.ins (.mv (.tmp 10)))⟩, ⟨(some 85), none, (.ins (.mv (.tmp 12)))⟩, ⟨(some 86), none, (.ins (.bslice 3 1 [(.int .i64 0)] [(0, (1, (.tmp 85)))]))⟩, ⟨(some 87), none, (.ins (.app 3 1 8 (.tmp 84) (.tmp 86)))⟩, ⟨(some 10), none, (.ins (.mv (.tmp 87)))⟩])) (.ops [⟨(some 82), none, (.ins (.mv (.tmp 12)))⟩, ⟨(some 83), none, (.int2 .add .i64 (.tmp 82) (.const (.int .i64 1)))⟩, ⟨(some 12), none, (.ins (.mv (.tmp 83)))⟩])))
theorem wue : trC Try.prog (wz 2) = wge := by kernel_rfl
noncomputable def wvb : RC := (.seq (.ops [⟨(some 93), none, (.int2 .lss .i64 (.tmp 92) (.tmp 91))⟩]) (.seq (.cond (.tmp 93) .skip (.exit 6)) (.seq (.block 7 (.seq (.ops [⟨(some 94), none, (.ins (.iaddrS 8 (.tmp 90) (.tmp 92)))⟩, ⟨(some 95), none, (.ins (.loadN 8 (.tmp 94)))⟩, ⟨(some 15), none, (.ins (.new [(.int .i64 0), (.int .i64 0), (.int .i64 0), (.int .i64 0), (.int .i64 0), (.int .i64 0), (.int .i64 0), (.int .i64 0)] 55))⟩, ⟨none, none, (.ins (.store 8 (.tmp 15) (.tmp 95)))⟩]) (.seq (.seq (.ops [⟨(some 96), none, (.ins (.iaddrA 4 2 (.tmp 15) (.const (.int .i64 0))))⟩, ⟨(some 97), none, (.ins (.faddr 1 (.tmp 96)))⟩, ⟨(some 98), none, (.ins (.load1 (.tmp 97)))⟩, ⟨(some 99), none, (.ins (.iaddrA 4 2 (.tmp 15) (.const (.int .i64 0))))⟩, ⟨(some 100), none, (.ins (.faddr 0 (.tmp 99)))⟩, ⟨(some 101), none, (.ins (.load1 (.tmp 100)))⟩, ⟨(some 102), none, (.int2 .sub .i64 (.tmp 98) (.tmp 101))⟩, ⟨(some 103), none, (.ins (.mv (.tmp 6)))⟩, ⟨(some 104), none, (.slen (.tmp 103))⟩, ⟨(some 105), none, (.int2 .neq .i64 (.tmp 102) (.tmp 104))⟩]) (.cond (.tmp 105) (.seq (.ops [⟨(some 4), none, (.ins (.mv (.const (.bool false))))⟩]) .ret) .skip)) (.ops [⟨(some 106), none, (.ins (.mv (.tmp 13)))⟩, ⟨(some 107), none, (.ins (.iaddrA 4 2 (.tmp 15) (.const (.int .i64 0))))⟩, ⟨(some 108), none, (.ins (.faddr 0 (.tmp 107)))⟩, ⟨(some 109), none, (.ins (.load1 (.tmp 108)))⟩, ⟨(some 110), none, (.ins (.bslice 3 1 [(.int .i64 0)] [(0, (1, (.tmp 109)))]))⟩, ⟨(some 111), none, (.ins (.app 3 1 8 (.tmp 106) (.tmp 110)))⟩, ⟨(some 13), none, (.ins (.mv (.tmp 111)))⟩])))) (.ops [⟨(some 112), none, (.int2 .add .i64 (.tmp 92) (.const (.int .i64 1)))⟩, ⟨(some 92), none, (.ins (.mv (.tmp 112)))⟩]))))
theorem wsb : trC Try.prog (wz 3) = wvb := by kernel_rfl
noncomputable def wjd : RF := ⟨128, (.seq (.ops [⟨(some 4), none, (.ins (.mv (.const (.bool false))))⟩]) (.seq (.ops [⟨(some 16), none, (.ins (.mv (.tmp 0)))⟩, ⟨(some 17), none, (.ins (.call 26 [(.tmp 16), (.const (.int .i64 12))]))⟩, ⟨(some 18), none, (.ins (.mv (.tmp 1)))⟩, ⟨(some 19), none, (.ins (.call 26 [(.tmp 18), (.const (.int .i64 2))]))⟩, ⟨(some 5), none, (.ins (.mv (.tmp 17)))⟩, ⟨(some 6), none, (.ins (.mv (.tmp 19)))⟩]) (.seq (.ops [⟨(some 7), none, (.ins (.mv (.const (.slice none 0 0))))⟩]) (.seq (.seq (.ops [⟨(some 20), none, (.ins (.mv (.tmp 6)))⟩, ⟨(some 21), none, (.slen (.tmp 20))⟩, ⟨(some 22), none, (.ins (.mv (.const (.int .i64 0))))⟩]) (.block 0 (.loop (wz 0)))) (.seq (.ops [⟨(some 35), none, (.ins (.mv (.tmp 7)))⟩, ⟨(some 36), none, (.ins (.build [(.int .i64 0), (.int .i64 0), (.int .i64 0), (.int .i64 0), (.int .u64 0), (.int .u64 0), (.int .u64 0), (.int .u64 0), (.slice none 0 0)] [(0, (1, (.const (.int .i64 2)))), (8, (1, (.tmp 35)))]))⟩, ⟨(some 9), none, (.ins (.new [(.int .i64 0), (.int .i64 0), (.int .i64 0), (.int .i64 0), (.int .u64 0), (.int .u64 0), (.int .u64 0), (.int .u64 0), (.slice none 0 0)] 47))⟩, ⟨none, none, (.ins (.store 9 (.tmp 9) (.tmp 36)))⟩]) (.seq (.seq (.ops [⟨(some 37), none, (.ins (.mv (.tmp 7)))⟩, ⟨(some 38), none, (.lenS (.tmp 37))⟩, ⟨(some 39), none, (.int2 .eql .i64 (.tmp 38) (.const (.int .i64 1)))⟩]) (.cond (.tmp 39) (.ops [⟨(some 40), none, (.ins (.mv (.tmp 7)))⟩, ⟨(some 41), none, (.ins (.iaddrS 9 (.tmp 40) (.const (.int .i64 0))))⟩, ⟨(some 42), none, (.ins (.loadN 9 (.tmp 41)))⟩, ⟨none, none, (.ins (.store 9 (.tmp 9) (.tmp 42)))⟩]) .skip)) (.seq (.ops [⟨(some 10), none, (.ins (.mv (.const (.slice none 0 0))))⟩]) (.seq (.seq (.ops [⟨(some 11), none, (.ins (.mv (.const (.int .i64 0))))⟩]) (.block 2 (.loop (wz 1)))) (.seq (.seq (.ops [⟨(some 75), none, (.ins (.mv (.tmp 6)))⟩, ⟨(some 76), none, (.slen (.tmp 75))⟩, ⟨(some 77), none, (.int2 .eql .i64 (.tmp 76) (.const (.int .i64 0)))⟩]) (.cond (.tmp 77) (.seq (.ops [⟨(some 12), none, (.ins (.mv (.const (.int .i64 0))))⟩]) (.block 4 (.loop (wz 2)))) .skip)) (.seq (.ops [⟨(some 13), none, (.ins (.mv (.const (.slice none 0 0))))⟩]) (.seq (.seq (.ops [⟨(some 88), none, (.ins (.loadN 9 (.tmp 9)))⟩, ⟨(some 89), none, (.ins (.mv (.tmp 5)))⟩, ⟨(some 90), none, (.ins (.call 27 [(.tmp 88), (.tmp 89)]))⟩, ⟨(some 91), none, (.lenS (.tmp 90))⟩, ⟨(some 92), none, (.ins (.mv (.const (.int .i64 0))))⟩]) (.block 6 (.loop (wz 3)))) (.seq (.ops [⟨(some 113), none, (.ins (.mv (.tmp 13)))⟩, ⟨(some 114), none, (.ins (.mv (.tmp 10)))⟩, ⟨(some 115), none, (.ins (.call 38 [(.tmp 113), (.tmp 114)]))⟩, ⟨(some 116), none, (.ins (.mv (.tmp 115)))⟩, ⟨(some 117), (some ((some 116), true)), (.ins (.loadN 9 (.tmp 9)))⟩, ⟨(some 118), (some ((some 116), true)), (.ins (.mv (.tmp 5)))⟩, ⟨(some 119), (some ((some 116), true)), (.ins (.call 36 [(.tmp 117), (.tmp 118)]))⟩, ⟨(some 120), (some ((some 116), true)), (.ins (.mv (.tmp 10)))⟩, ⟨(some 121), (some ((some 116), true)), (.lenS (.tmp 120))⟩, ⟨(some 122), (some ((some 116), true)), (.int2 .gtr .i64 (.tmp 121) (.const (.int .i64 0)))⟩, ⟨(some 123), (some ((some 116), true)), (.eqb false (.tmp 119) (.tmp 122))⟩, ⟨(some 124), none, (.ins (.pick (.tmp 116) (.tmp 123) (.const (.bool false))))⟩, ⟨(some 125), none, (.ins (.mv (.tmp 124)))⟩, ⟨(some 126), (some ((some 125), true)), (.ins (.call 29 []))⟩, ⟨(some 127), none, (.ins (.pick (.tmp 125) (.tmp 126) (.const (.bool false))))⟩, ⟨(some 4), none, (.ins (.mv (.tmp 127)))⟩]) .ret)))))))))))), [(.tmp 4)]⟩
theorem wkd : trF Try.prog 8 = some wjd := by kernel_rfl
noncomputable def wil (i : Nat) : Code := lp Try.prog 37 i
noncomputable def wxn : RC := (.seq (.ops [⟨(some 9), none, (.int2 .lss .i64 (.tmp 8) (.tmp 7))⟩]) (.seq (.cond (.tmp 9) .skip (.exit 0)) (.seq (.block 1 (.seq (.ops [⟨(some 10), none, (.ins (.iaddrS 1 (.tmp 6) (.tmp 8)))⟩, ⟨(some 11), none, (.ins (.load1 (.tmp 10)))⟩, ⟨(some 5), none, (.ins (.mv (.tmp 11)))⟩]) (.ops [⟨(some 12), none, (.ins (.mv (.tmp 5)))⟩, ⟨(some 13), none, (.int2 .quo .u8 (.tmp 12) (.const (.int .u8 64)))⟩, ⟨(some 14), none, (.ins (.iaddrA 4 1 (.tmp 3) (.tmp 13)))⟩, ⟨(some 15), none, (.ins (.load1 (.tmp 14)))⟩, ⟨(some 16), none, (.ins (.mv (.tmp 5)))⟩, ⟨(some 17), none, (.int2 .rem .u8 (.tmp 16) (.const (.int .u8 64)))⟩, ⟨(some 18), none, (.shift .shl (.const (.int .u64 1)) (.tmp 17))⟩, ⟨(some 19), none, (.int2 .or .u64 (.tmp 15) (.tmp 18))⟩, ⟨(some 20), none, (.ins (.iaddrA 4 1 (.tmp 3) (.tmp 13)))⟩, ⟨none, none, (.ins (.store 1 (.tmp 20) (.tmp 19)))⟩]))) (.ops [⟨(some 21), none, (.int2 .add .i64 (.tmp 8) (.const (.int .i64 1)))⟩, ⟨(some 8), none, (.ins (.mv (.tmp 21)))⟩]))))
theorem wyn : trC Try.prog (wil 0) = wxn := by kernel_rfl
noncomputable def wgz : RF := ⟨23, (.seq (.ops [⟨(some 2), none, (.ins (.new [(.int .u64 0), (.int .u64 0), (.int .u64 0), (.int .u64 0)] 44))⟩]) (.seq (.ops [⟨(some 3), none, (.ins (.new [(.int .u64 0), (.int .u64 0), (.int .u64 0), (.int .u64 0)] 44))⟩]) (.seq (.seq (.ops [⟨(some 6), none, (.ins (.mv (.tmp 0)))⟩, ⟨(some 7), none, (.lenS (.tmp 6))⟩, ⟨(some 8), none, (.ins (.mv (.const (.int .i64 0))))⟩]) (.block 0 (.loop (wil 0)))) (.seq (.ops [⟨(some 22), none, (.ins (.loadN 4 (.tmp 3)))⟩, ⟨none, none, (.ins (.store 4 (.tmp 2) (.tmp 22)))⟩]) .ret)))), [(.cellN 2 4)]⟩
theorem wacb : trF Try.prog 37 = some wgz := by kernel_rfl
end Go.Proofs.Ytdbhfmdndiphcaa
namespace Go.Den
noncomputable section
def wd (s : BitVec 256) (i : Nat) : BitVec 64 := s.extractLsb' (64 * i) 64
abbrev wdV (s : BitVec 256) (i : Nat) : Value := .int .u64 ((wd s i).toNat : Nat)
def setC (s : BitVec 256) : List Value := [wdV s 0, wdV s 1, wdV s 2, wdV s 3]
def setV (s : BitVec 256) : Value := .agg ⟨setC s⟩
theorem wanb (s : BitVec 256) {i : Nat} (h : i < 4) : (setC s)[i]? = some (wdV s i) := by
  match i, h with
  | 0, _ => rfl
  | 1, _ => rfl
  | 2, _ => rfl
  | 3, _ => rfl
theorem wkw (s : BitVec 256) : (setC s).length = 4 := eq_of_heq HEq.rfl
theorem wlw (s : BitVec 256) (i j : Nat) : (wd s i).getLsbD j = (decide (j < 64) && s.getLsbD (64 * i + j)) := by
  unfold wd
  rw [BitVec.getLsbD_extractLsb']
theorem wd_ext {s t : BitVec 256} (h : ∀ i, i < 4 → wd s i = wd t i) : s = t := by
  apply BitVec.eq_of_getLsbD_eq
  intro j hj
  have h1 := wlw s (j / 64) (j % 64)
  have h2 := wlw t (j / 64) (j % 64)
  rw [h (j / 64) (by omega)] at h1
  rw [h1] at h2
  have e : 64 * (j / 64) + j % 64 = j := by omega
  have e2 : decide (j % 64 < 64) = true := decide_eq_true (by omega)
  rw [e, e2, Bool.true_and, Bool.true_and] at h2
  exact h2
def cat4 (a b c d : BitVec 64) : BitVec (64 + 64 + 64 + 64) := a ++ b ++ c ++ d
theorem cat4_bit (a b c d : BitVec 64) (j : Nat) : (cat4 a b c d).getLsbD j = if j < 64 then d.getLsbD j else if j - 64 < 64 then c.getLsbD (j - 64) else if j - 64 - 64 < 64 then b.getLsbD (j - 64 - 64) else a.getLsbD (j - 64 - 64 - 64) := by
  unfold cat4
  rw [BitVec.getLsbD_append, BitVec.getLsbD_append, BitVec.getLsbD_append]
def ofWd (f : Nat → BitVec 64) : BitVec 256 := (cat4 (f 3) (f 2) (f 1) (f 0)).cast (by decide)
theorem wbbc (f : Nat → BitVec 64) {i : Nat} (h : i < 4) : wd (ofWd f) i = f i := by
  apply BitVec.eq_of_getLsbD_eq
  intro j hj
  rw [wlw, decide_eq_true hj, Bool.true_and]
  unfold ofWd
  rw [BitVec.getLsbD_cast, cat4_bit]
  rcases (show i = 0 ∨ i = 1 ∨ i = 2 ∨ i = 3 by omega) with rfl | rfl | rfl | rfl
  · rw [if_pos (by omega), show 64 * 0 + j = j by omega]
  · rw [if_neg (by omega), if_pos (by omega), show 64 * 1 + j - 64 = j by omega]
  · rw [if_neg (by omega), if_neg (by omega), if_pos (by omega), show 64 * 2 + j - 64 - 64 = j by omega]
  · rw [if_neg (by omega), if_neg (by omega), if_neg (by omega), show 64 * 3 + j - 64 - 64 - 64 = j by omega]
def setWd (s : BitVec 256) (i : Nat) (w : BitVec 64) : BitVec 256 := ofWd fun k => if k = i then w else wd s k
theorem setC_set (s : BitVec 256) {i : Nat} (h : i < 4) (w : BitVec 64) : (setC s).set i (.int .u64 (w.toNat : Nat)) = setC (setWd s i w) := by
  have hw : ∀ k, k < 4 → wd (setWd s i w) k = if k = i then w else wd s k := fun k hk => wbbc _ hk
  unfold setC wdV
  rw [hw 0 (by omega), hw 1 (by omega), hw 2 (by omega), hw 3 (by omega)]
  generalize wd s 0 = a
  generalize wd s 1 = b
  generalize wd s 2 = c
  generalize wd s 3 = d
  rcases (show i = 0 ∨ i = 1 ∨ i = 2 ∨ i = 3 by omega) with rfl | rfl | rfl | rfl <;> simp
theorem wkm (v : BitVec 64) : BitVec.ofInt (IntKind.bits .u64) ((v.toNat : Nat) : Int) = v := by
  show BitVec.ofInt 64 _ = v
  apply BitVec.eq_of_toNat_eq
  simp
theorem and_u64 (v u : BitVec 64) : IntKind.wrap .u64 ((BitVec.ofInt (IntKind.bits .u64) ((v.toNat : Nat) : Int) &&& BitVec.ofInt (IntKind.bits .u64) ((u.toNat : Nat) : Int)).toNat : Int) = ((v &&& u).toNat : Nat) := by
  rw [wkm, wkm]
  exact wrap_u64 (by omega) (by have := (v &&& u).isLt; show ((v &&& u).toNat : Int) ≤ _; omega)
theorem or_u64 (v u : BitVec 64) : IntKind.wrap .u64 ((BitVec.ofInt (IntKind.bits .u64) ((v.toNat : Nat) : Int) ||| BitVec.ofInt (IntKind.bits .u64) ((u.toNat : Nat) : Int)).toNat : Int) = ((v ||| u).toNat : Nat) := by
  rw [wkm, wkm]
  exact wrap_u64 (by omega) (by have := (v ||| u).isLt; show ((v ||| u).toNat : Int) ≤ _; omega)
theorem shr_u64 (v : BitVec 64) {b : Int} (h1 : 0 ≤ b) (h2 : b < 64) : Int.fdiv ((v.toNat : Nat) : Int) (2 ^ (min b.toNat (IntKind.bits .u64))) = ((v >>> b.toNat).toNat : Nat) := by
  have hm : min b.toNat (IntKind.bits .u64) = b.toNat := by show min b.toNat 64 = _; omega
  rw [hm, BitVec.toNat_ushiftRight, Nat.shiftRight_eq_div_pow]
  have e2 : ((2 : Int) ^ b.toNat) = ((2 ^ b.toNat : Nat) : Int) := by rw [Int.natCast_pow]; rfl
  rw [e2, Int.fdiv_eq_ediv_of_nonneg _ (Int.natCast_nonneg _), Int.natCast_ediv]
theorem shl_u64 {b : Int} (h1 : 0 ≤ b) (h2 : b < 64) : IntKind.wrap .u64 (1 * 2 ^ (min b.toNat (IntKind.bits .u64))) = ((1#64 <<< b.toNat).toNat : Nat) := by
  have hm : min b.toNat (IntKind.bits .u64) = b.toNat := by show min b.toNat 64 = _; omega
  have hlt : (2 ^ b.toNat : Nat) < 2 ^ 64 := Nat.pow_lt_pow_right (by omega) (by omega)
  have e2 : ((2 : Int) ^ b.toNat) = ((2 ^ b.toNat : Nat) : Int) := by rw [Int.natCast_pow]; rfl
  rw [BitVec.toNat_shiftLeft, Nat.shiftLeft_eq, show (1#64).toNat = 1 from rfl, Nat.one_mul, Nat.mod_eq_of_lt hlt]
  rw [hm, Int.one_mul, e2]
  generalize (2 ^ b.toNat : Nat) = m at *
  exact wrap_u64 (by omega) (by omega)
theorem bit_one (v : BitVec 64) (n : Nat) : decide ((((v >>> n) &&& 1#64).toNat : Int) = 1) = v.getLsbD n := by
  have h : ((v >>> n) &&& 1#64).toNat = if v.getLsbD n then 1 else 0 := by
    rw [BitVec.toNat_and, BitVec.toNat_ushiftRight, show (1#64).toNat = 1 from rfl, Nat.and_one_is_mod, Nat.shiftRight_eq_div_pow, BitVec.getLsbD, Nat.testBit_eq_decide_div_mod_eq]
    by_cases hq : v.toNat / 2 ^ n % 2 = 1
    · simp [hq]
    · simp [hq]; omega
  rw [h]
  cases v.getLsbD n <;> rfl
def one (x : Nat) : BitVec 256 := 1#256 <<< x
theorem wpkb (x j : Nat) : (one x).getLsbD j = (decide (j < 256) && decide (j = x)) := by
  unfold one
  rw [BitVec.getLsbD_shiftLeft, BitVec.getLsbD_one]
  by_cases h1 : j < 256 <;> by_cases h2 : j = x <;> by_cases h3 : j < x <;> simp [h1, h2, h3] <;> omega
theorem or_one (s : BitVec 256) (x : Nat) (hx : x < 256) : setWd s (x / 64) (wd s (x / 64) ||| (1#64 <<< (x % 64))) = s ||| one x := by
  apply wd_ext
  intro i hi
  rw [setWd, wbbc _ hi]
  apply BitVec.eq_of_getLsbD_eq
  intro j hj
  rw [wlw, decide_eq_true hj, Bool.true_and, BitVec.getLsbD_or, wpkb]
  have h256 : decide (64 * i + j < 256) = true := decide_eq_true (by omega)
  rw [h256, Bool.true_and]
  by_cases h : i = x / 64
  · rw [if_pos h, BitVec.getLsbD_or, wlw, decide_eq_true hj, Bool.true_and, ← h]
    congr 1
    rw [BitVec.getLsbD_shiftLeft, BitVec.getLsbD_one]
    by_cases h2 : j = x % 64
    · have : 64 * i + j = x := by omega
      simp [this, h2]; omega
    · have h3 : ¬ (64 * i + j = x) := by omega
      by_cases h4 : j < x % 64
      · simp [h3, h4]
      · have : ¬ (j - x % 64 = 0) := by omega
        simp [h3, h4, this]
  · rw [if_neg h, wlw, decide_eq_true hj, Bool.true_and]
    have h3 : ¬ (64 * i + j = x) := by omega
    simp [h3]
theorem has_bit (s : BitVec 256) (x : Nat) (hx : x < 256) : (wd s (x / 64)).getLsbD (x % 64) = s.getLsbD x := by
  rw [wlw, decide_eq_true (by omega), Bool.true_and]
  congr 1
  omega
theorem wmw (s : BitVec 256) : wwe [.int .u64, .int .u64, .int .u64, .int .u64] (setC s) = true := rfl
theorem eqL_setC (s t : BitVec 256) : eqL (setC s) (setC t) = decide (s = t) := by
  have h : eqL (setC s) (setC t) = true ↔ s = t := by
    constructor
    · intro h
      simp only [eqL, setC, wvv, Bool.and_eq_true, beq_iff_eq, Bool.and_true] at h
      apply wd_ext
      intro i hi
      apply BitVec.eq_of_toNat_eq
      rcases (show i = 0 ∨ i = 1 ∨ i = 2 ∨ i = 3 by omega) with rfl | rfl | rfl | rfl <;> omega
    · rintro rfl
      simp [eqL, setC, wvv]
  by_cases hq : s = t
  · rw [decide_eq_true hq]; exact h.2 hq
  · rw [decide_eq_false hq]
    cases he : eqL (setC s) (setC t) with
    | false => rfl
    | true => exact absurd (h.1 he) hq
theorem SlA.ints {P : Program} {h : List ABlk} {i : Nat} {v : Value} {vs : List Value} {elem : TypeId} {frz : Nat} {a a' : List Value} {fr : Frs} (hb : h[i]? = some (X (v :: vs) elem frz true)) (hs : tsz P elem = 1) (hr : wac (v :: vs) = true) (t : SlA P h a a' fr) :
    SlA P h (.slice (some ⟨i, 0, none⟩) (vs.length + 1) (vs.length + 1 + 1) :: a) (FL (vs.length + 1) (v :: vs) :: a') ((i, (vs.length + 1) * 1) :: fr) := by
  have h1 := SlA.row (P := P) (h := h) (i := i) (n := vs.length) (c := vs.length + 1) hb hs (by omega) (Nat.le_refl _) (by simp) (by rw [wzj (by simp)]; exact hr) t
  rw [wzj (by simp)] at h1
  exact h1
theorem wcbc (a b : BitVec 256) : eqcV true [.int .u64, .int .u64, .int .u64, .int .u64] (setV a) (setV b) = val (.bool (decide (a ≠ b))) := by
  rw [setV, setV, wexb (wmw a) (wmw b), eqL_setC, decide_not]
end
end Go.Den
namespace Go.Den
noncomputable section
def RowSt (elem size : Nat) (l : List ABlk) (v : Value) (n : Nat) (cs : List Value) : Prop :=
  (v = .slice none 0 0 ∧ n = 0 ∧ cs = []) ∨ ∃ t, v = FO t n cs ∧ l[t]? = some (.tok n elem size) ∧ cs.length = n * size ∧ 0 < n
theorem RowSt.sl {elem size n : Nat} {l : List ABlk} {v : Value} {cs : List Value} (h : RowSt elem size l v n cs) : Sl 0 v (FL n cs) := by
  rcases h with ⟨rfl, rfl, rfl⟩ | ⟨t, rfl, _, _, _⟩
  · exact Sl.nilS
  · exact Sl.fo t _ cs
theorem RowSt.jk {elem size n : Nat} {l : List ABlk} {v : Value} {cs : List Value} (h : RowSt elem size l v n cs) : isJK v = false := by
  rcases h with ⟨rfl, _⟩ | ⟨t, rfl, _⟩
  · rfl
  · exact wkjb
end
end Go.Den
namespace Go.Den
noncomputable section
theorem wbnb {l m : List Value} (h : m.length = l.length) : wm l 0 m = m := by
  have key : ∀ (m l : List Value) (a : List Value), m.length = l.length → wm (a ++ l) a.length m = a ++ m := by
    intro m
    induction m with
    | nil => intro l a h; have := List.eq_nil_of_length_eq_zero h.symm; subst this; rfl
    | cons v r ih =>
      intro l a h
      cases l with
      | nil => simp at h
      | cons w l =>
        simp only [List.length_cons, Nat.add_right_cancel_iff] at h
        show wm ((a ++ w :: l).set a.length v) (a.length + 1) r = _
        have e : (a ++ w :: l).set a.length v = (a ++ [v]) ++ l := by simp
        rw [e, show a.length + 1 = (a ++ [v]).length by simp, ih l (a ++ [v]) h]
        simp
  exact key m l [] h
theorem wnw {a : Value} {l m : List Value} {k : Nat} : wm (a :: l) (k + 1) m = a :: wm l k m := by
  induction m generalizing l k with
  | nil => rfl
  | cons v r ih => show wm ((a :: l).set (k + 1) v) (k + 1 + 1) r = _; rw [List.set_cons_succ, ih]; rfl
theorem whz {a : Value} {l m : List Value} {k : Nat} : wm (a :: l) (1 + k) m = a :: wm l k m := by rw [Nat.add_comm]; exact wnw
theorem whsb {a : Value} {l : List Value} {k n : Nat} : slotsOf (a :: l) (k + 1) n = slotsOf l k n := rfl
theorem wow {a : Value} {l : List Value} {k n : Nat} : slotsOf (a :: l) (1 + k) n = slotsOf l k n := by rw [Nat.add_comm]; rfl
theorem slots_0 {a : Value} {l : List Value} {n : Nat} : slotsOf (a :: l) 0 (n + 1) = a :: slotsOf l 0 n := rfl
theorem slots_00 {l : List Value} {k : Nat} : slotsOf l k 0 = [] := by simp [slotsOf]
theorem wdbc {α : Type} {a : α} {l : List α} {k : Nat} : (a :: l)[1 + k]? = l[k]? := by rw [Nat.add_comm]; rfl
theorem webc {α : Type} {a b : α} {l : List α} {k : Nat} : (a :: l).set (1 + k) b = a :: l.set k b := by rw [Nat.add_comm]; rfl
theorem wbcb {α : Type} {enc : α → List Value} {k : Nat} (hk : ∀ a, (enc a).length = k) (l : List α) : (l.flatMap enc).length = l.length * k := by
  induction l with
  | nil => simp
  | cons a l ih => rw [List.flatMap_cons, List.length_append, hk, ih, List.length_cons, Nat.add_mul]; omega
theorem wpw {α : Type} {enc : α → List Value} {k : Nat} (hk : ∀ a, (enc a).length = k) (d : α) : ∀ (l : List α) (i : Nat), i < l.length → slotsOf (l.flatMap enc) (i * k) k = enc (l.getD i d) := by
  intro l
  induction l with
  | nil => intro i h; cases h
  | cons a l ih =>
    intro i h
    cases i with
    | zero =>
      rw [List.flatMap_cons, Nat.zero_mul]
      show ((enc a ++ l.flatMap enc).drop 0).take k = enc a
      rw [List.drop_zero, List.take_append_of_le_length (by rw [hk]; exact Nat.le_refl _), List.take_of_length_le (by rw [hk]; exact Nat.le_refl _)]
    | succ i =>
      have := ih i (by simpa using h)
      rw [show (a :: l).getD (i + 1) d = l.getD i d by simp, ← this, List.flatMap_cons]
      show ((enc a ++ l.flatMap enc).drop ((i + 1) * k)).take k = _
      rw [show (i + 1) * k = (enc a).length + i * k by rw [hk, Nat.add_mul]; omega, List.drop_append, List.drop_of_length_le (by omega), List.nil_append]
      congr 2
      omega
theorem wqw {α : Type} {enc : α → List Value} (hk : ∀ a, wye (enc a) = true) (l : List α) : wye (l.flatMap enc) = true := by
  induction l with
  | nil => rfl
  | cons a l ih => rw [List.flatMap_cons, wgt, hk, ih]; rfl
abbrev Mt := { l : List Int // l.length = 8 }
def mtC (m : Mt) : List Value := m.1.map (Value.int .i64)
def Mt.at (m : Mt) (i : Nat) : Int := m.1.getD i 0
def Mt.put (m : Mt) (i : Nat) (a : Int) : Mt := ⟨m.1.set i a, by rw [List.length_set]; exact m.2⟩
theorem wht {m : Mt} : (mtC m).length = 8 := by rw [mtC, List.length_map, m.2]
theorem wfbc {m : Mt} {i : Nat} (h : i < 8) : (mtC m)[i]? = some (.int .i64 (m.at i)) := by
  rw [mtC, List.getElem?_map, Mt.at, List.getD_eq_getElem?_getD, List.getElem?_eq_getElem (by rw [m.2]; exact h)]
  rfl
theorem wgbc {m : Mt} {i : Nat} {a : Int} : (mtC m).set i (.int .i64 a) = mtC (m.put i a) := by
  rw [mtC, mtC, Mt.put, List.map_set]
theorem wqkb {m : Mt} : wye (mtC m) = true := by
  rw [wzxb]
  intro v hv
  simp only [mtC, List.mem_map] at hv
  obtain ⟨x, _, rfl⟩ := hv
  rfl
theorem whbc {m : Mt} {i : Nat} (h : i + 2 ≤ 8) : slotsOf (mtC m) i 2 = [.int .i64 (m.at i), .int .i64 (m.at (i + 1))] := by
  apply List.ext_getElem?
  intro j
  rw [slotsOf, List.getElem?_take]
  split
  · rw [List.getElem?_drop]
    rcases (show j = 0 ∨ j = 1 by omega) with rfl | rfl
    · rw [wfbc (by omega)]; rfl
    · rw [wfbc (by omega)]; rfl
  · match j with
    | 0 => omega
    | 1 => omega
    | j + 2 => rfl
theorem wdgb {m : Mt} : slotsOf (mtC m) 0 8 = mtC m := wzj wht
theorem wisb (l : List Int) : wuk (l.map (Value.int .i64)) = true := by
  induction l with
  | nil => rfl
  | cons a l ih => rw [List.map_cons, wvo, ih]; rfl
theorem wibc {m : Mt} : wuk (mtC m) = true := wisb _
theorem wif (m : Mt) : FzL (mtC m) := fzl wqkb
theorem ints_eq : ∀ (a b : List Int), a.length = b.length → (eqL (a.map (Value.int .i64)) (b.map (Value.int .i64)) = true ↔ a = b) := by
  intro a
  induction a with
  | nil => intro b h; cases b with | nil => simp [eqL] | cons x b => cases h
  | cons x a ih =>
    intro b h
    cases b with
    | nil => cases h
    | cons y b =>
      simp only [List.length_cons, Nat.add_right_cancel_iff] at h
      simp only [List.map_cons, eqL, wvv, Bool.and_eq_true, beq_iff_eq, ih b h, List.cons.injEq]
theorem wjbc : ∀ (a : List Int), wwe (List.replicate a.length (AK.int .i64)) (a.map (Value.int .i64)) = true := by
  intro a
  induction a with
  | nil => rfl
  | cons x a ih => simp only [List.length_cons, List.replicate_succ, List.map_cons, wwe, ih]; rfl
theorem wrkb {m : Mt} : wwe [.int .i64, .int .i64, .int .i64, .int .i64, .int .i64, .int .i64, .int .i64, .int .i64] (mtC m) = true := by
  have := wjbc m.1
  rw [m.2] at this
  exact this
theorem mt_eqL {m n : Mt} : eqL (mtC m) (mtC n) = decide (m = n) := by
  have h := ints_eq m.1 n.1 (by rw [m.2, n.2])
  by_cases hq : m = n
  · rw [decide_eq_true hq]; exact h.2 (by rw [hq])
  · rw [decide_eq_false hq]
    cases he : eqL (mtC m) (mtC n) with
    | false => rfl
    | true => exact absurd (Subtype.ext (h.1 he)) hq
abbrev St := Int × Mt
def Mt.zero : Mt := ⟨[0, 0, 0, 0, 0, 0, 0, 0], rfl⟩
def St.zero : St := (0, Mt.zero)
def stC (s : St) : List Value := .int .i64 s.1 :: mtC s.2
theorem wiz {s : St} : (stC s).length = 9 := by rw [stC, List.length_cons, wht]
theorem wskb {s : St} : wye (stC s) = true := by rw [stC, wss, wqkb]; rfl
theorem wqt (s : St) : FzL (stC s) := fzl wskb
theorem wtkb {s : St} : wuk (stC s) = true := by rw [stC, wvo, wibc]; rfl
theorem wkbc {s : St} : slotsOf (stC s) 0 9 = stC s := wzj wiz
theorem st_get0 {s : St} : (stC s)[0]? = some (.int .i64 s.1) := rfl
theorem st_get1 {s : St} {k : Nat} : (stC s)[1 + k]? = (mtC s.2)[k]? := by rw [Nat.add_comm]; rfl
theorem wlbc {s : St} : slotsOf (stC s) 1 8 = mtC s.2 := wdgb
theorem wmbc {s : St} {k n : Nat} : slotsOf (stC s) (1 + k) n = slotsOf (mtC s.2) k n := wow
theorem st_set0 {s : St} {a : Int} : (stC s).set 0 (.int .i64 a) = stC (a, s.2) := rfl
theorem st_over1 {s : St} {k : Nat} {m : List Value} : wm (stC s) (1 + k) m = .int .i64 s.1 :: wm (mtC s.2) k m := whz
theorem st_over8 {s : St} {m : Mt} : wm (stC s) 1 (mtC m) = stC (s.1, m) := by
  show wm (_ :: mtC s.2) (0 + 1) (mtC m) = _
  rw [wnw, wbnb (by rw [wht, wht])]
  rfl
theorem st_fold {a : Int} {m : Mt} : (Value.int .i64 a :: mtC m) = stC (a, m) := rfl
theorem wccb {s : St} : wwe [.int .i64, .int .i64, .int .i64, .int .i64, .int .i64, .int .i64, .int .i64, .int .i64, .int .i64] (stC s) = true := by
  rw [stC]; show (true && wwe _ (mtC s.2)) = true; rw [wrkb]; rfl
theorem wnbc {s t : St} : eqL (stC s) (stC t) = decide (s = t) := by
  obtain ⟨a, m⟩ := s
  obtain ⟨b, n⟩ := t
  show ((a == b) && eqL (mtC m) (mtC n)) = _
  rw [mt_eqL]
  by_cases h1 : a = b <;> by_cases h2 : m = n <;> simp [h1, h2]
def stsC (l : List St) : List Value := l.flatMap stC
theorem wobc {l : List St} : (stsC l).length = l.length * 9 := wbcb (fun _ => wiz) l
theorem wdcb {l : List St} {i : Nat} (h : i < l.length) : slotsOf (stsC l) (i * 9) 9 = stC (l.getD i St.zero) := wpw (fun _ => wiz) St.zero l i h
theorem sts_atom {l : List St} : wye (stsC l) = true := wqw (fun _ => wskb) l
theorem sts_fz (l : List St) : FzL (stsC l) := fzl sts_atom
theorem wecb : stsC [] = [] := rfl
theorem wcnb {l : List St} {s : St} : stsC (l ++ [s]) = stsC l ++ stC s := by rw [stsC, stsC, List.flatMap_append]; simp
theorem wdg {s : St} : stsC [s] = stC s := by rw [stsC]; simp
theorem sts_one {s : St} : stC s = stsC [s] := by rw [stsC]; simp
def mtsC (l : List Mt) : List Value := l.flatMap mtC
theorem wpbc {l : List Mt} : (mtsC l).length = l.length * 8 := wbcb (fun _ => wht) l
theorem wcu {l : List Mt} {i : Nat} (h : i < l.length) : slotsOf (mtsC l) (i * 8) 8 = mtC (l.getD i Mt.zero) := wpw (fun _ => wht) _ l i h
theorem mts_atom {l : List Mt} : wye (mtsC l) = true := wqw (fun _ => wqkb) l
theorem wqe (l : List Mt) : FzL (mtsC l) := fzl mts_atom
theorem mts_app {l m : List Mt} : mtsC l ++ mtsC m = mtsC (l ++ m) := by rw [mtsC, mtsC, mtsC, List.flatMap_append]
theorem wukb {s : Mt} : mtC s = mtsC [s] := by rw [mtsC]; simp
theorem ints_bq : ∀ (l : List Int), beqL (l.map (Value.int .i64)) (l.map (Value.int .i64)) = true := by
  intro l
  induction l with
  | nil => rfl
  | cons a l ih => rw [List.map_cons, wkh, wur, ih]; rfl
theorem mt_bq {m : Mt} : beqL (mtC m) (mtC m) = true := ints_bq _
theorem wqbc {s : St} : beqL (stC s) (stC s) = true := by rw [stC, wkh, wur, mt_bq]; rfl
theorem sts_bq {l : List St} : beqL (stsC l) (stsC l) = true := wxbb (fun _ => wqbc) l
theorem mts_bq {l : List Mt} : beqL (mtsC l) (mtsC l) = true := wxbb (fun _ => mt_bq) l
theorem set_bq {s : BitVec 256} : beqL (setC s) (setC s) = true := by rw [setC, wkh, wkh, wkh, wkh, wur, wur, wur, wur, wbw]; rfl
inductive Rx where
  | mk (kind min max n : Int) (set : BitVec 256) (kids : List Rx)
def Rx.kind : Rx → Int | .mk k _ _ _ _ _ => k
def Rx.mn : Rx → Int | .mk _ k _ _ _ _ => k
def Rx.mx : Rx → Int | .mk _ _ k _ _ _ => k
def Rx.n : Rx → Int | .mk _ _ _ k _ _ => k
def Rx.set : Rx → BitVec 256 | .mk _ _ _ _ s _ => s
def Rx.kids : Rx → List Rx | .mk _ _ _ _ _ l => l
def Rx.zero : Rx := .mk 0 0 0 0 0#256 []
theorem rx_kind {k a b c s l} : Rx.kind (.mk k a b c s l) = k := rfl
theorem rx_mn {k a b c s l} : Rx.mn (.mk k a b c s l) = a := rfl
theorem rx_mx {k a b c s l} : Rx.mx (.mk k a b c s l) = b := rfl
theorem rx_n {k a b c s l} : Rx.n (.mk k a b c s l) = c := rfl
theorem rx_set {k a b c s l} : Rx.set (.mk k a b c s l) = s := rfl
theorem wrbc {k a b c s l} : Rx.kids (.mk k a b c s l) = l := rfl
mutual
def rxC : Rx → List Value
  | .mk k a b c s l => [.int .i64 k, .int .i64 a, .int .i64 b, .int .i64 c, wdV s 0, wdV s 1, wdV s 2, wdV s 3, FL l.length (rxsC l)]
def rxsC : List Rx → List Value
  | [] => []
  | r :: l => rxC r ++ rxsC l
end
theorem wrw {r : Rx} : rxC r = [.int .i64 r.kind, .int .i64 r.mn, .int .i64 r.mx, .int .i64 r.n, wdV r.set 0, wdV r.set 1, wdV r.set 2, wdV r.set 3, FL r.kids.length (rxsC r.kids)] := by
  cases r; rw [rxC]; rfl
theorem wdu (l : List Rx) : rxsC l = l.flatMap rxC := by
  induction l with
  | nil => rw [rxsC]; rfl
  | cons r l ih => rw [rxsC, ih, List.flatMap_cons]
theorem wegb {r : Rx} : (rxC r).length = 9 := by rw [wrw]; rfl
theorem wsbc {r : Rx} : wye (rxC r) = true := by rw [wrw]; rfl
theorem wjsb (r : Rx) : FzL (rxC r) := fzl wsbc
theorem rx_get0 {r : Rx} : (rxC r)[0]? = some (.int .i64 r.kind) := by rw [wrw]; rfl
theorem rx_get1 {r : Rx} : (rxC r)[1]? = some (.int .i64 r.mn) := by rw [wrw]; rfl
theorem rx_get2 {r : Rx} : (rxC r)[2]? = some (.int .i64 r.mx) := by rw [wrw]; rfl
theorem rx_get3 {r : Rx} : (rxC r)[3]? = some (.int .i64 r.n) := by rw [wrw]; rfl
theorem rx_get8 {r : Rx} : (rxC r)[8]? = some (FL r.kids.length (rxsC r.kids)) := by rw [wrw]; rfl
theorem wtbc {r : Rx} : slotsOf (rxC r) 4 4 = setC r.set := by rw [wrw]; rfl
theorem wubc {r : Rx} : slotsOf (rxC r) 0 9 = rxC r := wzj wegb
theorem wsw {l : List Rx} : (rxsC l).length = l.length * 9 := by rw [wdu]; exact wbcb (fun _ => wegb) l
theorem wwo {l : List Rx} {i : Nat} (h : i < l.length) : slotsOf (rxsC l) (i * 9) 9 = rxC (l.getD i Rx.zero) := by rw [wdu]; exact wpw (fun _ => wegb) _ l i h
theorem rxs_atom {l : List Rx} : wye (rxsC l) = true := by rw [wdu]; exact wqw (fun _ => wsbc) l
theorem rx_bq : ∀ (r : Rx), beqL (rxC r) (rxC r) = true := by
  refine Rx.rec (motive_1 := fun r => beqL (rxC r) (rxC r) = true) (motive_2 := fun l => beqL (rxsC l) (rxsC l) = true) ?_ ?_ ?_
  · intro k a b c s l ih
    rw [wrw]
    rw [wrbc]
    simp only [wkh, wur, bq_FL, ih, wbw, Bool.and_self]
  · rw [rxsC]; rfl
  · intro r l h1 h2
    rw [rxsC]
    exact wcz h1 h2
theorem rxs_bq {l : List Rx} : beqL (rxsC l) (rxsC l) = true := by rw [wdu]; exact wxbb rx_bq l
theorem rxs_fz (l : List Rx) : FzL (rxsC l) := fzl rxs_atom
theorem set_atom {s : BitVec 256} : wye (setC s) = true := rfl
theorem wjz (s : BitVec 256) : FzL (setC s) := fzl set_atom
theorem set_flat {s : BitVec 256} : wuk (setC s) = true := rfl
end
end Go.Den
namespace Go.Den
noncomputable section
variable {P : Program} {cfg : Cfg}
theorem wvbc {α : Type} (body : α → PUnit → Sem (ForInStep PUnit)) : ∀ (l : List α), (∀ f ∈ l, wy P (body f ⟨⟩) = some (.yield ⟨⟩)) → wy P (forIn l (⟨⟩ : PUnit) body) = some ⟨⟩ := by
  intro l
  induction l with
  | nil => intro _; rfl
  | cons a l ih =>
    intro h
    rw [List.forIn_cons, wpb, h a (by simp), Option.bind_some]
    exact ih fun f hf => h f (List.mem_cons_of_mem _ hf)
theorem wfgb {b : Bool} {d m : Nat} (ih : ∀ (t : TypeId) (ks : List AK), wfh P d t = some ks → ∀ (xs : List Value) (x : Value), Rep P t xs x → wwe ks xs = true → wy P (Instr.checkKey b m t x) = some ⟨⟩) :
    ∀ (fs : List Field) (off : Nat) (ks : List AK), wqs (wfh P d) fs off = some ks → ∀ (xs : List Value), wwe ks (xs.drop off) = true → off ≤ xs.length →
    wy P (forIn fs (⟨⟩ : PUnit) fun f _ => (if f.name ≠ "_" then (do
      let a ← part f.type ⟨xs⟩ f.offset
      Instr.checkKey b m f.type a
      pure (ForInStep.yield ⟨⟩)) else pure (ForInStep.yield ⟨⟩) : Sem (ForInStep PUnit))) = some ⟨⟩ := by
  intro fs
  induction fs with
  | nil => intro off ks h xs fx _; rfl
  | cons f fs ih2 =>
    intro off ks h xs fx hx
    unfold wqs at h
    split at h
    · rename_i hf
      obtain ⟨hname, hoff⟩ := hf
      split at h
      · rename_i k1 hk1
        split at h
        · rename_i k2 hk2
          cases h
          obtain ⟨fx1, fx2⟩ := wqk fx
          have lx := wuh fx
          rw [List.length_append, List.length_drop] at lx
          obtain ⟨va, ha, ra⟩ := wpo hk1 (xs := xs) (off := off) (by omega)
          have he := ih _ _ hk1 _ _ ra fx1
          have hstep : wy P (if f.name ≠ "_" then (do
              let a ← part f.type ⟨xs⟩ f.offset
              Instr.checkKey b m f.type a
              pure (ForInStep.yield ⟨⟩)) else pure (ForInStep.yield ⟨⟩) : Sem (ForInStep PUnit)) = some (.yield ⟨⟩) := by
            rw [if_pos hname, hoff, wpb, ha, Option.bind_some, wpb, he, Option.bind_some]
            rfl
          rw [List.forIn_cons, wpb, hstep, Option.bind_some]
          rw [List.drop_drop] at fx2
          exact ih2 (off + k1.length) k2 hk2 xs fx2 (by omega)
        · cases h
      · cases h
    · cases h
theorem check_ok {b : Bool} : ∀ (d : Nat) (t : TypeId) (ks : List AK), wfh P d t = some ks → ∀ (m : Nat), d ≤ m → ∀ (xs : List Value) (x : Value), Rep P t xs x → wwe ks xs = true → wy P (Instr.checkKey b m t x) = some ⟨⟩ := by
  intro d
  induction d with
  | zero => intro t ks h; cases h
  | succ d ih =>
    intro t ks h m hm xs x hx fx
    obtain ⟨m, rfl⟩ : ∃ m', m = m' + 1 := ⟨m - 1, by omega⟩
    have hcopy := h
    unfold wfh at h
    split at h
    · rename_i k hu
      cases h
      obtain ⟨rfl, _⟩ := wqo hcopy hx hx hu rfl
      simp only [wwe, Bool.and_true] at fx
      obtain ⟨a, rfl⟩ := fits_int fx
      show wy P ((underlying t).bind fun u => _) = _
      rw [wxe t hu]
      rfl
    · rename_i hu
      cases h
      obtain ⟨rfl, _⟩ := wqo hcopy hx hx hu rfl
      simp only [wwe, Bool.and_true] at fx
      obtain ⟨a, rfl⟩ := wqr fx
      show wy P ((underlying t).bind fun u => _) = _
      rw [wxe t hu]
      rfl
    · rename_i hu
      cases h
      obtain ⟨rfl, _⟩ := wqo hcopy hx hx hu rfl
      simp only [wwe, Bool.and_true] at fx
      obtain ⟨a, rfl⟩ := fits_bool fx
      show wy P ((underlying t).bind fun u => _) = _
      rw [wxe t hu]
      rfl
    · rename_i fields hu
      split at h
      · cases h
      · split at h
        · rename_i ks' hf
          split at h
          · cases h
            obtain ⟨rfl, _⟩ := wmbb hx hx hu rfl
            have hl := wfgb (b := b) (m := m) (fun t ks h xs x => ih t ks h m (by omega) xs x) fields.toList 0 ks hf xs (by simpa using fx) (by omega)
            show wy P ((underlying t).bind fun u => _) = _
            rw [wxe t hu]
            simp only [wpb, ← Array.forIn_toList]
            first
              | exact hl
              | (rw [hl]; rfl)
          · cases h
        · cases h
    · rename_i len elem hu
      split at h
      · rename_i k1 hk1
        split at h
        · rename_i hs
          cases h
          simp only [Bool.and_eq_true] at hs
          obtain ⟨i, hi, hsz⟩ := weq hs.1
          obtain ⟨rfl, _⟩ := wmbb hx hx hu rfl
          have lx := wuh fx
          rw [wop] at lx
          show wy P ((underlying t).bind fun u => _) = _
          rw [wxe t hu]
          simp only [wpb, Std.Legacy.Range.forIn_eq_forIn_range', Std.Legacy.Range.size, Nat.sub_zero, Nat.add_one_sub_one, Nat.div_one]
          have hl : wy P (forIn (List.range' 0 len) (⟨⟩ : PUnit) fun j _ => (do
              let n ← sizeOf elem
              let a ← part elem ⟨xs⟩ (j * n)
              Instr.checkKey b m elem a
              pure (ForInStep.yield ⟨⟩) : Sem (ForInStep PUnit))) = some ⟨⟩ := by
            apply wvbc
            intro j hj
            rw [List.mem_range'_1] at hj
            have hb : j * k1.length + k1.length ≤ len * k1.length := by
              have : (j + 1) * k1.length ≤ len * k1.length := Nat.mul_le_mul_right _ (by omega)
              rw [Nat.succ_mul] at this
              exact this
            obtain ⟨va, ha, ra⟩ := wpo hk1 (xs := xs) (off := j * k1.length) (by omega)
            have he := ih _ _ hk1 m (by omega) _ _ ra (wxv len fx j (by omega))
            rw [wpb, wwv hi, Option.bind_some, hsz, wpb, ha, Option.bind_some, wpb, he, Option.bind_some]
            rfl
          first
            | exact hl
            | (rw [hl]; rfl)
        · cases h
      · cases h
    · cases h
def wvkb (P : Program) (t : TypeId) : Bool := match tyU P t with | some (.struct _) => true | _ => false
theorem wit {t : TypeId} (h : wvkb P t = true) : ∃ fs, tyU P t = some (.struct fs) := by
  unfold wvkb at h
  split at h
  · exact ⟨_, by assumption⟩
  · cases h
structure KeyT (P : Program) (kt : TypeId) {α : Type} [DecidableEq α] (enc : α → List Value) : Prop where
  ht : wvkb P kt = true
  fits : ∃ K, wfh P 12 kt = some K ∧ ∀ a, wwe K (enc a) = true
  eq : ∀ a b, eqL (enc a) (enc b) = decide (a = b)
  flat : ∀ a, wuk (enc a) = true
section
variable {α : Type} [DecidableEq α] {enc : α → List Value} {kt : TypeId}
def mapK (enc : α → List Value) (m : List (α × Value)) : List (Value × Value) := m.map fun p => (.agg ⟨enc p.1⟩, p.2)
def wrk (a : α) : List (α × Value) → Nat → Option (Nat × Value)
  | [], _ => none
  | p :: r, i => if a = p.1 then some (i, p.2) else wrk a r (i + 1)
def getK (m : List (α × Value)) (a : α) : Option Value := (wrk a m 0).map (·.2)
theorem asking_K (k : KeyT P kt enc) (a : α) : ∀ (m : List (α × Value)) (i : Nat), wy P (Instr.findAsking kt (.agg ⟨enc a⟩) (entriesOf (mapK enc m)) i) = some (wrk a m i) := by
  obtain ⟨fs, hu⟩ := wit k.ht
  obtain ⟨K, hK, hf⟩ := k.fits
  have rep : ∀ b : α, Rep P kt (enc b) (.agg ⟨enc b⟩) := fun b => ⟨_, hu, .inl ⟨rfl, rfl⟩⟩
  intro m
  induction m with
  | nil => intro i; rfl
  | cons p r ih =>
    intro i
    have he : wy P (Op.equal kt (.agg ⟨enc a⟩) (.agg ⟨enc p.1⟩)) = some (decide (a = p.1)) := by
      rw [← k.eq]
      exact wlmb 12 kt K hK _ (by decide) _ _ _ _ (rep a) (rep p.1) (hf a) (hf p.1)
    show wy P ((Op.equal kt (.agg ⟨enc a⟩) (.agg ⟨enc p.1⟩)).bind fun q => if q = true then Sem.pure (some (i, p.2)) else Instr.findAsking kt (.agg ⟨enc a⟩) (entriesOf (mapK enc r)) (i + 1)) = _
    rw [wub, he, Option.bind_some]
    by_cases hq : a = p.1
    · simp only [wrk, hq, decide_true, if_true]; rfl
    · simp only [wrk, hq, decide_false, Bool.false_eq_true, if_false]; exact ih (i + 1)
theorem wwbc (k : KeyT P kt enc) (b : Bool) (a : α) (m : List (α × Value)) : wuq P b kt (.agg ⟨enc a⟩) (mapK enc m) = some (wrk a m 0) := by
  obtain ⟨fs, hu⟩ := wit k.ht
  obtain ⟨K, hK, hf⟩ := k.fits
  unfold wuq
  rw [wpb, check_ok 12 kt K hK 10000 (by omega) (enc a) (.agg ⟨enc a⟩) ⟨_, hu, .inl ⟨rfl, rfl⟩⟩ (hf a), Option.bind_some]
  show wy P ((underlying kt).bind fun d => _) = _
  rw [wxe kt hu]
  cases m with
  | nil => rfl
  | cons p r =>
    show wy P (Instr.findAsking kt (.agg ⟨enc a⟩) (entriesOf (mapK enc (p :: r))) 0) = _
    exact asking_K k a (p :: r) 0
theorem lookX_K (k : KeyT P kt enc) {zero : Value} {ok : Bool} {a : α} {m : List (α × Value)} : wuxb P kt zero ok (.agg ⟨enc a⟩) (some (.map (mapK enc m))) = val (okV ok zero (getK m a)) := by
  show (bif flat (.agg ⟨enc a⟩) then wsp ok zero (wuq P (mapK enc m).isEmpty kt (.agg ⟨enc a⟩) (mapK enc m)) else .none) = _
  rw [show flat (.agg ⟨enc a⟩) = true from k.flat a, cond_true, wwbc k]
  unfold getK
  cases wrk a m 0 <;> rfl
def putK (a : α) (v : Value) : List (α × Value) → List (α × Value)
  | [] => [(a, v)]
  | p :: r => if a = p.1 then (a, v) :: r else p :: putK a v r
theorem wwkb {a : α} {v : Value} : ∀ {m : List (α × Value)} {i j : Nat}, wrk a m i = some (j, v) → ∃ h : j - i < m.length, i ≤ j ∧ (m[j - i]).1 = a ∧ ∀ w, putK a w m = m.set (j - i) (a, w) := by
  intro m
  induction m with
  | nil => intro i j h; cases h
  | cons p r ih =>
    intro i j h
    simp only [wrk] at h
    by_cases hq : a = p.1
    · rw [if_pos hq] at h
      cases h
      refine ⟨by simp, Nat.le_refl _, ?_, fun w => ?_⟩
      · simp [hq]
      · simp [putK, hq]
    · rw [if_neg hq] at h
      obtain ⟨h1, h2, h3, h4⟩ := ih h
      have e : j - i = (j - (i + 1)) + 1 := by omega
      refine ⟨by simp only [List.length_cons]; omega, by omega, ?_, fun w => ?_⟩
      · simp only [e, List.getElem_cons_succ]; exact h3
      · rw [e, List.set_cons_succ, ← h4 w]; simp [putK, hq]
theorem wxkb {a : α} : ∀ {m : List (α × Value)} {i : Nat}, wrk a m i = none → ∀ w, putK a w m = m ++ [(a, w)] := by
  intro m
  induction m with
  | nil => intro i _ w; rfl
  | cons p r ih =>
    intro i h w
    simp only [wrk] at h
    by_cases hq : a = p.1
    · rw [if_pos hq] at h; cases h
    · rw [if_neg hq] at h
      simp only [putK, if_neg hq, ih h w, List.cons_append]
theorem wxbc {K : List AK} : ∀ {l : List Value}, wwe K l = true → ∀ n, (l.zip l).all (fun (x, y) => Instr.sameBits n x y) = true := by
  induction K with
  | nil => intro l h n; cases l with | nil => rfl | cons v r => cases h
  | cons k K ih =>
    intro l h n
    cases l with
    | nil => rfl
    | cons v r =>
      simp only [wwe, Bool.and_eq_true] at h
      simp only [List.zip_cons_cons, List.all_cons, Bool.and_eq_true]
      refine ⟨?_, ih h.2 n⟩
      cases k with
      | int j => obtain ⟨x, rfl⟩ := fits_int h.1; simp [Instr.sameBits]
      | str => obtain ⟨⟨⟨x⟩⟩, rfl⟩ := wqr h.1; simp only [Instr.sameBits]; rw [ba_beq]; simp
      | bool => obtain ⟨x, rfl⟩ := fits_bool h.1; simp [Instr.sameBits]
theorem updX_K (k : KeyT P kt enc) {h : List ABlk} {r : Nat} {a : α} {x : Value} {m : List (α × Value)} (hr : r < h.length) : updX P h r kt (.agg ⟨enc a⟩) x (some (.map (mapK enc m))) = .eff undef (HP (h.set r (.map (mapK enc (putK a x m))))) := by
  show (bif flat (.agg ⟨enc a⟩) && Nat.blt r h.length then wzx (HP h) r (mapK enc m) (.agg ⟨enc a⟩) x (wuq P false kt (.agg ⟨enc a⟩) (mapK enc m)) else .none) = _
  rw [show flat (.agg ⟨enc a⟩) = true from k.flat a, nblt, decide_eq_true hr, Bool.and_self, cond_true, wwbc k]
  cases hq : wrk a m 0 with
  | none =>
    rw [wxkb hq]
    show ARes.eff undef ((HP h).set r (.map (mapK enc m ++ [(.agg ⟨enc a⟩, x)]))) = _
    rw [wsr _ _ _ hr]
    simp [mapK]
  | some q =>
    obtain ⟨j, v⟩ := q
    obtain ⟨h1, _, h3, h4⟩ := wwkb hq
    simp only [Nat.sub_zero] at h1 h3 h4
    rw [h4]
    have e1 : (mapK enc m)[j]? = some (.agg ⟨enc a⟩, (m[j]).2) := by
      rw [mapK, List.getElem?_map, List.getElem?_eq_getElem h1]
      simp only [Option.map_some, h3]
    obtain ⟨K, _, hf⟩ := k.fits
    have e2 : Instr.sameBits 10000 (.agg ⟨enc a⟩) (.agg ⟨enc a⟩) = true := by
      show ((⟨enc a⟩ : Array Value).size == (⟨enc a⟩ : Array Value).size && ((enc a).zip (enc a)).all fun (x, y) => Instr.sameBits 9999 x y) = true
      rw [wxbc (hf a)]
      simp
    show (match (mapK enc m)[j]? with | some e => (bif Instr.sameBits 10000 e.1 (.agg ⟨enc a⟩) then ARes.eff undef ((HP h).set r (.map ((mapK enc m).set j (.agg ⟨enc a⟩, x)))) else .none) | none => .none) = _
    rw [e1]
    simp only [e2, cond_true]
    rw [wsr _ _ _ hr]
    simp [mapK, List.map_set]
omit [DecidableEq α] in
theorem wybc {m : List (α × Value)} (h : (m.all fun p => wvn p.2) = true) : wvbb (mapK enc m) = true := by
  unfold wvbb mapK
  rw [List.all_map]
  exact h
def setK (enc : α → List Value) (l : List α) : List (Value × Value) := mapK enc (l.map fun a => (a, .bool true))
omit [DecidableEq α] in
theorem wdnb : setK enc [] = [] := rfl
omit [DecidableEq α] in
theorem wab (l : List α) : wbv (setK enc l) = [] ∧ (∀ m, renM m (setK enc l) = setK enc l) ∧ whib (setK enc l) = [] := by
  have h : wvbb (setK enc l) = true := wybc (by rw [List.all_map]; simp [Function.comp_def, wvn])
  exact ⟨wnrb h, fun _ => wvzb h, worb h⟩
omit [DecidableEq α] in
theorem wzbc (h : ∀ a, beqL (enc a) (enc a) = true) (l : List α) : beqP (setK enc l) (setK enc l) = true := by
  induction l with
  | nil => rfl
  | cons a l ih =>
    show (beqV (.agg ⟨enc a⟩) (.agg ⟨enc a⟩) && (beqV (.bool true) (.bool true) && beqP (setK enc l) (setK enc l))) = true
    rw [ih, wxac]
    show (beqL (enc a) (enc a) && true) = true
    rw [h]; rfl
theorem find_set (a : α) : ∀ (l : List α) (i : Nat), (wrk a (l.map fun a => (a, .bool true)) i).map (·.2) = if a ∈ l then some (.bool true) else none := by
  intro l
  induction l with
  | nil => intro i; rfl
  | cons b l ih =>
    intro i
    simp only [List.map_cons, wrk]
    by_cases hq : a = b
    · simp [hq]
    · rw [if_neg hq, ih]; simp [hq]
theorem wod (k : KeyT P kt enc) {a : α} {l : List α} : wuxb P kt (.bool false) false (.agg ⟨enc a⟩) (some (.map (setK enc l))) = val (.bool (decide (a ∈ l))) := by
  rw [setK, lookX_K k, getK, find_set]
  by_cases h : a ∈ l <;> simp [h] <;> rfl
theorem put_set {a : α} {l : List α} (h : a ∉ l) : putK a (.bool true) (l.map fun a => (a, .bool true)) = (l ++ [a]).map fun a => (a, .bool true) := by
  induction l with
  | nil => rfl
  | cons b l ih =>
    simp only [List.mem_cons, not_or] at h
    simp only [List.map_cons, putK, if_neg h.1, List.cons_append, ih h.2]
theorem wmf (k : KeyT P kt enc) {h : List ABlk} {r : Nat} {a : α} {l : List α} (hr : r < h.length) (ha : a ∉ l) : updX P h r kt (.agg ⟨enc a⟩) (.bool true) (some (.map (setK enc l))) = .eff undef (HP (h.set r (.map (setK enc (l ++ [a]))))) := by
  rw [setK, updX_K k hr, put_set ha]
  rfl
end
theorem wfcb {α : Type} [DecidableEq α] {enc : α → List Value} : ABlk.map [] = .map (setK enc ([] : List α)) := rfl
end
end Go.Den
namespace Go.Den
noncomputable section
variable {P : Program}
def appN (h : List ABlk) (elem size bytes : Nat) (s : Value) (n : Nat) (new : List Value) : ARes := wnu true (HP h) elem size bytes s n new
theorem app_FL {h : List ABlk} {elem size bytes : Nat} {s : Value} {n : Nat} {cs : List Value} (h0 : 0 < n) (hc : n * size ≤ cs.length) : appA true (HP h) elem size bytes s (FL n cs) = appN h elem size bytes s n (slotsOf cs 0 (n * size)) := by
  unfold appA
  have h1 : lenA (FL n cs) = some n := rfl
  have h2 : wri (HP h) size n (FL n cs) = some (cs.take (n * size)) := by
    show (bif Nat.ble n n && (Nat.blt 0 n && Nat.ble (n * size) cs.length) then some (cs.take (n * size)) else none) = _
    rw [nble, nblt, nble, decide_eq_true (Nat.le_refl n), decide_eq_true h0, decide_eq_true hc]
    rfl
  obtain ⟨m, rfl⟩ : ∃ m, n = m + 1 := ⟨n - 1, by omega⟩
  rw [h1]
  simp only [h2]
  rfl
theorem app_FL0 {h : List ABlk} {elem size bytes : Nat} {cs : List Value} : appA true (HP h) elem size bytes (.slice none 0 0) (FL 0 cs) = .eff (.slice none 0 0) (HP h) := rfl
theorem wksb {h : List ABlk} {elem size bytes t len : Nat} {cs ds : List Value} : appA true (HP h) elem size bytes (FO t len ds) (FL 0 cs) = .eff (FO t len ds) (HP h) := rfl
def appR (h : List ABlk) (elem size bytes : Nat) (s : Value) (n : Nat) : Option ABlk → ARes
  | some (.cells b) => bif decide (n * size ≤ b.cells.length) then appN h elem size bytes s n (slotsOf b.cells 0 (n * size)) else .none
  | _ => .none
def exactX : Option ABlk → Bool
  | some (.cells b) => isNil b.lens && Nat.beq b.wver 0
  | _ => false
theorem exactX_X {cs : List Value} {t z : Nat} {pf : Bool} : exactX (some (X cs t z pf)) = true := rfl
theorem appR_X {h : List ABlk} {elem size bytes : Nat} {s : Value} {n : Nat} {cs : List Value} {t z : Nat} {pf : Bool} (hc : n * size ≤ cs.length) : appR h elem size bytes s n (some (X cs t z pf)) = appN h elem size bytes s n (slotsOf cs 0 (n * size)) := by
  show (bif decide (n * size ≤ cs.length) then _ else _) = _
  rw [decide_eq_true hc]; rfl
theorem app_row1 {h : List ABlk} (hh : h.length ≤ 1099511627774) {elem size bytes : Nat} {s : Value} {i n c : Nat} (hx : exactX h[i]? = true) :
    appA true (HP h) elem size bytes s (.slice (some ⟨i, 0, none⟩) (n + 1) c) = appR h elem size bytes s (n + 1) h[i]? := by
  unfold appA
  have h1 : lenA (.slice (some ⟨i, 0, none⟩) (n + 1) c) = some (n + 1) := rfl
  rw [h1]
  have h2 : wri (HP h) size (n + 1) (.slice (some ⟨i, 0, none⟩) (n + 1) c) = match wdh (HP h) ⟨i, 0, none⟩ ((n + 1) * size) with
    | some b => some (slotsOf b.cells 0 ((n + 1) * size))
    | none => none := by
    show (bif Nat.ble (n + 1) (n + 1) && Nat.blt 0 (n + 1) then _ else none) = _
    rw [nble, nblt, decide_eq_true (Nat.le_refl _), decide_eq_true (Nat.succ_pos n)]
    rfl
  simp only [h2]
  unfold wdh
  rw [wvh h hh]
  cases hb : h[i]? with
  | none => rw [hb] at hx; cases hx
  | some b =>
    rw [hb] at hx
    cases b with
    | cells b =>
      have hx : (isNil b.lens && Nat.beq b.wver 0) = true := hx
      simp only [Bool.and_eq_true, Nat.beq_eq] at hx
      obtain ⟨h3, h4⟩ := hx
      have h5 : b.lens = [] := by cases hl : b.lens with | nil => rfl | cons a r => rw [hl] at h3; cases h3
      have h6 : rdOk b (aver ⟨i, 0, none⟩) (0 + (n + 1) * size) = decide ((n + 1) * size ≤ b.cells.length) := by
        unfold rdOk
        have e1 : b.top = 0 := by unfold CBlk.top; rw [h5]; rfl
        have e2 : b.lenAt 0 = b.cells.length := by unfold CBlk.lenAt; rw [h5]
        rw [h4, e1]
        show (Nat.ble 0 0 && (Nat.ble 0 0 && Nat.ble (0 + (n + 1) * size) (b.lenAt 0))) = _
        rw [e2, Nat.zero_add, nble, nble]
        simp
      simp only [h6]
      by_cases hq : (n + 1) * size ≤ b.cells.length
      · simp only [decide_eq_true hq, cond_true, appR]; rfl
      · simp only [decide_eq_false hq, cond_false, appR]
    | map es => cases hx
    | tok a b c => cases hx
theorem appN_nil {h : List ABlk} (hh : h.length ≤ 1099511627774) {elem size bytes n : Nat} {new : List Value} (hn : n ≤ 16777216) (hb : bytes ≤ 1048576) (ha : wye new = true) :
    appN h elem size bytes (.slice none 0 0) n new = .eff (FO h.length n new) (HP (h ++ [.tok n elem size])) := by
  show (bif roomy n bytes then wyh true (HP h) elem size new n else .none) = _
  have h1 : roomy n bytes = true := by unfold roomy; rw [nble, nble, decide_eq_true hn, decide_eq_true hb]; rfl
  rw [h1, cond_true]
  show (bif wax (HP h) (nfL new) then ARes.eff (FO (HP h).n n (nfL new)) ((HP h).push (.tok n elem size)) else .none) = _
  rw [wtbb ha]
  have h2 : wax (HP h) new = true := by
    unfold wax
    rw [wxi ha, wwn ha, HP_n, wjh hh]; rfl
  rw [h2, cond_true, HP_n, wyj]
def appT (h : List ABlk) (elem size t len n : Nat) (cs new : List Value) : Option ABlk → ARes
  | some (.tok m el es) => bif decide (m = len ∧ el = elem ∧ es = size) then .eff (FO t (len + n) (cs ++ new)) (HP (h.set t (.tok (len + n) elem size))) else .none
  | _ => .none
theorem appT_tok {h : List ABlk} {elem size t len n : Nat} {cs new : List Value} : appT h elem size t len n cs new (some (.tok len elem size)) = .eff (FO t (len + n) (cs ++ new)) (HP (h.set t (.tok (len + n) elem size))) := by
  simp [appT]
theorem appN_FO {h : List ABlk} (hh : h.length ≤ 1099511627774) {elem size bytes t len n : Nat} {cs new : List Value} (ht : t < h.length) (hn : len + n ≤ 16777216) (hb : bytes ≤ 1048576) (hc : cs.length = len * size) (ha : wye new = true) :
    appN h elem size bytes (FO t len cs) n new = appT h elem size t len n cs new h[t]? := by
  show (bif roomy (len + n) bytes then wpl (HP h) elem size t len cs (nfL new) n else .none) = _
  have h1 : roomy (len + n) bytes = true := by unfold roomy; rw [nble, nble, decide_eq_true hn, decide_eq_true hb]; rfl
  rw [h1, cond_true, wtbb ha]
  unfold wpl
  rw [wvh h hh]
  cases hq : h[t]? with
  | none => rfl
  | some b =>
    cases b with
    | cells b => rfl
    | map es => rfl
    | tok m el es =>
      show (bif wip m el es elem size t len cs new then _ else _) = (bif decide (m = len ∧ el = elem ∧ es = size) then _ else _)
      have h2 : wip m el es elem size t len cs new = decide (m = len ∧ el = elem ∧ es = size) := by
        unfold wip
        rw [wxi ha, wwn ha, hc, Nat.beq_refl, wjh (by omega), nbeq, nbeq, nbeq]
        by_cases q1 : m = len <;> by_cases q2 : el = elem <;> by_cases q3 : es = size <;> simp [q1, q2, q3]
      rw [h2, wsr _ _ _ ht]
      by_cases q : m = len ∧ el = elem ∧ es = size
      · obtain ⟨rfl, rfl, rfl⟩ := q; rfl
      · rw [decide_eq_false q]; rfl
def pfX : Option ABlk → Bool
  | some (.cells b) => isNil b.lens && (Nat.beq b.wver 0 && b.pf)
  | _ => false
theorem pfX_X {cs : List Value} {t z : Nat} : pfX (some (X cs t z true)) = true := rfl
theorem wacc {h : List ABlk} (hh : h.length ≤ 1099511627774) {i n c : Nat} {sl : List Value → Option (List Value × Frs)} (hx : pfX h[i]? = true) :
    wle P (HP h) sl (.slice (some ⟨i, 0, none⟩) (n + 1) (c + 1)) = rowS P i (n + 1) c h[i]? := by
  show won P (HP h) sl ⟨i, 0, none⟩ (n + 1) (c + 1) = _
  unfold won
  rw [wvh h hh]
  cases hb : h[i]? with
  | none => rw [hb] at hx; cases hx
  | some b =>
    rw [hb] at hx
    cases b with
    | map es => cases hx
    | tok a b c => cases hx
    | cells b =>
      have hx : (isNil b.lens && (Nat.beq b.wver 0 && b.pf)) = true := hx
      simp only [Bool.and_eq_true, Nat.beq_eq] at hx
      obtain ⟨h3, h4, h7⟩ := hx
      have h5 : b.lens = [] := by cases hl : b.lens with | nil => rfl | cons a r => rw [hl] at h3; cases h3
      have e0 : wfg P b = tsz P b.elem := by unfold wfg; rw [h5]; rfl
      have hi : whc i = true := wjh (by have := wyv hb; omega)
      have h6 : rdOk b (aver ⟨i, 0, none⟩) (0 + (n + 1) * tsz P b.elem) = Nat.ble ((n + 1) * tsz P b.elem) b.cells.length := by
        unfold rdOk
        have e1 : b.top = 0 := by unfold CBlk.top; rw [h5]; rfl
        have e2 : b.lenAt 0 = b.cells.length := by unfold CBlk.lenAt; rw [h5]
        rw [h4, e1]
        show (Nat.ble 0 0 && (Nat.ble 0 0 && Nat.ble (0 + (n + 1) * tsz P b.elem) (b.lenAt 0))) = _
        rw [e2, Nat.zero_add, nble 0 0]
        simp
      simp only [e0, h6, h7, cond_true]
      show (bif (Nat.ble (n + 1) c && Nat.blt 0 (tsz P b.elem)) && Nat.ble ((n + 1) * tsz P b.elem) b.cells.length then _ else none) = (bif Nat.ble (n + 1) c && (isNil b.lens && (b.pf && (Nat.blt 0 (tsz P b.elem) && Nat.ble ((n + 1) * tsz P b.elem) b.cells.length))) then _ else none)
      rw [h3, h7, Bool.and_assoc, Bool.true_and, Bool.true_and]
      cases (Nat.ble (n + 1) c && (Nat.blt 0 (tsz P b.elem) && Nat.ble ((n + 1) * tsz P b.elem) b.cells.length)) with
      | false => rfl
      | true =>
        simp only [cond_true, hi, Bool.and_true, Nat.zero_add]
end
end Go.Den
namespace Go.Den
set_option linter.defProp false
theorem ai {a b : Prop} (h : a) (k : b) : a ∧ b := ⟨h, k⟩
def sy0 := (ai (ai (ai (ai @wvpb @wqvb) (ai @wwpb @wrvb)) (ai (ai @wsvb @wejb) (ai @wzpb (ai @waqb @wfjb)))) (ai (ai (ai @wgjb @seqK_ret) (ai @wvvb @wnbb)) (ai (ai @wbqb @whjb) (ai @wwvb (ai @opsR_nil @opsR_ins)))))
def sy1 := (ai (ai (ai (ai @wxvb @wcqb) (ai @wyvb @opsR_un)) (ai (ai @opsR_eqb @wzvb) (ai @wawb (ai @wbwb @opsR_ssl)))) (ai (ai (ai @wcwb @opsR_slS) (ai @wdwb @wewb)) (ai (ai @opsR_b2s @wfwb) (ai @wgwb (ai @opsI_val @whwb)))))
def sy2 := (ai (ai (ai (ai @opsI_new @opsI_eff) (ai @wiwb @evl_tmp)) (ai (ai @wjwb @evls_nil) (ai @wkwb (ai @SE_put @wdjb)))) (ai (ai (ai @int2_add @int2_sub) (ai @int2_mul @int2_quo)) (ai (ai @int2_rem @int2_eql) (ai @int2_neq (ai @int2_lss @int2_leq)))))
def sy3 := (ai (ai (ai (ai @int2_gtr @int2_geq) (ai @int2_and @int2_or)) (ai (ai @int2_xor @shift_shl) (ai @shift_shr (ai @conv_int @un_not)))) (ai (ai (ai @un_neg @eqb_eq) (ai @eqb_ne @slen_str)) (ai (ai @isJK_int @wlwb) (ai @wijb (ai @isJK_agg @isJK_ptr)))))
def sy4 := (ai (ai (ai (ai @wdqb @wjjb) (ai @wkjb @wmwb)) (ai (ai @wnwb @weqb) (ai @wffb (ai @wljb @cells_func)))) (ai (ai (ai @wowb @wmjb) (ai @wgfb @wmx)) (ai (ai @wobb @wnjb) (ai @wzy (ai @wfqb @wgqb)))))
def sy5 := (ai (ai (ai (ai @wojb @wpbb) (ai @wpwb @wpjb)) (ai (ai @load1_HP @load1X_X) (ai @loadN_HP (ai @loadNX_X @store_HP)))) (ai (ai (ai @storeX_X @exact_X) (ai @wwi @cond_true.{1})) (ai (ai @cond_false.{1} @nble) (ai @nblt (ai @nbeq @decide_eq_true_eq)))))
def sy6 := (ai (ai (ai (ai @wrap_i64 @wrap_u8) (ai @wrap_u64 @Int.tdiv_eq_ediv_of_nonneg)) (ai (ai @Int.tmod_eq_emod_of_nonneg @List.nil_append.{0}) (ai @List.cons_append.{0} (ai @List.append_assoc.{0} @List.length_cons.{0})))) (ai (ai (ai @List.length_nil.{0} @List.getElem?_cons_zero.{0}) (ai @List.getElem?_cons_succ.{0} @List.set_cons_zero.{0})) (ai (ai @List.set_cons_succ.{0} @Nat.zero_add) (ai @Nat.add_zero (ai @Bool.true_and @Bool.and_true)))))
def sy7 := (ai (ai (ai (ai @Bool.and_self @Bool.not_false) (ai @Bool.not_true @Int.toNat_natCast)) (ai (ai @HP_n @List.drop_zero.{0}) (ai @List.drop_succ_cons.{0} (ai @List.take_zero.{0} @List.take_succ_cons.{0})))) (ai (ai (ai @bif_pos @bif_neg) (ai @Nat.add_eq @Nat.mul_eq)) (ai (ai @Nat.mul_one @wtvb) (ai @wuvb (ai @whqb @arr_size)))))
def sy8 := (ai (ai (ai (ai @wzj @resR_nil) (ai @wqwb @wrwb)) (ai (ai @resA_tmp @wiqb) (ai @wjqb (ai @resV_val @wswb)))) (ai (ai (ai @wtwb @wuwb) (ai @len_FL @len_FO)) (ai (ai @wvwb @wwwb) (ai @wxwb (ai @wxpb @opsD_ins)))))
def sy9 := (ai (ai (ai (ai @wgxb @whxb) (ai @opsD_un @wixb)) (ai (ai @wjxb @wkxb) (ai @opsD_ssl (ai @wlxb @opsD_slS)))) (ai (ai (ai @opsD_eqc @opsD_nil) (ai @wmxb @woqb)) (ai (ai @wnxb @woxb) (ai @wpqb (ai @wbxb @wkfb)))))
def sy10 := (ai (ai (ai (ai @wrbb @opsR_eqc) (ai @opsR_mm @List.map_cons.{0, 0})) (ai (ai @List.map_nil.{0, 0} @wpxb) (ai @get_app0 (ai @wqxb @set_app0)))) (ai (ai (ai @List.length_append.{0} @idx1_agg) (ai @fldN_agg @idxN_agg)) (ai (ai @fld1_agg @wywb) (ai @wjfb (ai @wsmb @wlqb)))))
def sy11 := (ai (ai (ai (ai @waxb @wmqb) (ai @wcxb @Bool.decide_eq_true)) (ai (ai @Bool.decide_eq_false @if_true.{1}) (ai @if_false.{1} (ai @str2_eql @str2_neq)))) (ai (ai (ai @str2_add @sidx_str) (ai @ssl_both @ssl_hi)) (ai (ai @ssl_lo @Option.map_some.{0, 0}) (ai @Option.map_none.{0, 0} (ai @eq_self.{1} @decide_true)))))
def sy12 := (ai (ai (ai (ai @decide_false @wrqb) (ai @opsD_eqb @opsD_mm)) (ai (ai @wsqb @wrxb) (ai @wsxb (ai @opsD_b2s @look_HP)))) (ai (ai (ai @lookX_S @okd_true) (ai @wvxb @upd_HP)) (ai (ai @wmfb @okV_some) (ai @okV_none (ai @wumb @waz)))))
def sy13 := (ai (ai (ai (ai @gselV_tt @gselV_tf) (ai @gselV_ft @gselV_ff)) (ai (ai @List.all_cons.{0} @List.all_nil.{0}) (ai @wypb (ai @whfb @wyxb)))) (ai (ai (ai @wss @wgt) (ai @atom_int @wayb)) (ai (ai @wrjb @atom_FL) (ai @atom_FP (ai @wbyb @wcyb)))))
def sy14 := (ai (ai (ai (ai @wdyb @wwqb) (ai @wsjb @wxqb)) (ai (ai @weyb @seal_int) (ai @wfyb (ai @wtjb @wpfb)))) (ai (ai (ai @seal_FL @seal_FO) (ai @seal_FP @wgyb)) (ai (ai @seal_noS @seal_ptr) (ai @seal_map (ai @whyb @wiyb)))))
def sy15 := (ai (ai (ai (ai @seal_agg @wyqb) (ai @wjyb @wkyb)) (ai (ai @wlyb @wmyb) (ai @EJ_n (ai @EJ_g @SE_n)))) (ai (ai (ai @SE_g @E0_n) (ai @E0_g @zipR_nil)) (ai (ai @wpyb @envL_SE) (ai @lvOk_nil (ai @wqyb @evs_nil)))))
def sy16 := (ai (ai (ai (ai @evs_cons @normA_X) (ai @cloL_nil @wryb)) (ai (ai @memN_nil @wtyb) (ai @warb (ai @wwyb @wbrb)))) (ai (ai (ai @pins_nil @wxyb) (ai @hasL_nil @wyyb)) (ai (ai @wzyb @wcrb) (ai @wdrb (ai @wwjb @wazb)))))
def sy17 := (ai (ai (ai (ai @wbzb @werb) (ai @wczb @renBX_X)) (ai (ai @wdzb @wezb) (ai @exactB_X (ai @wfrb @wgrb)))) (ai (ai (ai @refsB_X @wfzb) (ai @wgzb @nm1_at)) (ai (ai @whrb @upto_0) (ai @upto_1 (ai @upto_2 @upto_3)))))
def sy18 := (ai (ai (ai (ai @upto_4 @upto_5) (ai @upto_6 @whzb)) (ai (ai @wirb @refs_ptr) (ai @wmzb (ai @refs_row @wnzb)))) (ai (ai (ai @wozb @refs_map) (ai @refs_FO @refs_agg)) (ai (ai @wkrb @wpzb) (ai @wqzb (ai @wlrb @wrzb)))))
def sy19 := (ai (ai (ai (ai @wmrb @ren_ptr) (ai @wszb @ren_nilS)) (ai (ai @ren_row @ren_row0) (ai @ren_rowC (ai @ren_map @ren_FO)))) (ai (ai (ai @ren_agg @wtzb) (ai @ren_func @renM_nil)) (ai (ai @wuzb @wwzb) (ai @wprb (ai @wqrb @wzjb)))))
def sy20 := (ai (ai (ai (ai @wakb @wbkb) (ai @wyzb @wrrb)) (ai (ai @retR_end @wzzb) (ai @waac (ai @wsrb @valK_raw)))) (ai (ai (ai @wbac @one_1) (ai @one_0 @one_2)) (ai (ai @wcac @raise_HP) (ai @AH0_HP (ai @wdac @wtrb)))))
def sy21 := (ai (ai (ai (ai @frzSet_X @wckb) (ai @wdkb @wfkb)) (ai (ai @wikb @wjkb) (ai @wkkb (ai @opsK_did @wzac)))) (ai (ai (ai @wgsb @wokb) (ai @bk_at @getN_0)) (ai (ai @getN_s @fzn1_agg) (ai @fzn1_int (ai @whac @wgkb)))))
def sy22 := (ai (ai (ai (ai @wufb @fzn1_FL) (ai @fzn1_FP @wiac)) (ai (ai @wjac @wvrb) (ai @frzV_agg (ai @frzV_int @wkac)))) (ai (ai (ai @whkb @wvfb) (ai @frzV_FL @frzV_FP)) (ai (ai @wlac @wmac) (ai @fl_int (ai @fl_bool @wuac)))))
def sy23 := (ai (ai (ai (ai @wasb @fl_FL) (ai @fl_FO @fl_ptr)) (ai (ai @fl_map @fl_agg) (ai @fl_tuple (ai @wvac @wvo)))) (ai (ai (ai @wbsb @wwac) (ai @gd_skip @gd_skip')) (ai (ai @gd_do @gd_do') (ai @wpac (ai @wwrb @wwfb)))))
def sy24 := (ai (ai (ai (ai @wxrb @wqac) (ai @wlkb @Option.isSome_some.{0})) (ai (ai @Bool.or_false @Bool.false_or) (ai @Bool.or_true (ai @Bool.true_or @Bool.and_false)))) (ai (ai (ai @Bool.false_and @List.append_nil.{0}) (ai @wzwb @wkqb)) (ai (ai @lkE_nil @lkE_cons) (ai @look_E0 (ai @look_EJ @lkB_true)))))
def sy25 := (ai (ai (ai (ai @wnyb @lkH_true) (ai @app_FL @app_FL0)) (ai (ai @wksb @app_row1) (ai @appR_X (ai @exactX_X @appN_nil)))) (ai (ai (ai @appN_FO @appT_tok) (ai @wacc @pfX_X)) (ai (ai @rowS_X @wrac) (ai @wwbb (ai @wyrb @isJK_map)))))
def sy26 := (ai (ai (ai (ai @wxfb @wsac) (ai @wtac @isJK_fun)) (ai (ai @wmkb @waw) (ai @wyfb (ai @wzrb @nilc_ptr)))) (ai (ai (ai @nilc_FP @wcsb) (ai @mm_min2 @mm_max2)) (ai (ai @mm_max3 @bq_X) (ai @bq_map (ai @bq_tok @wbw)))))
def sy27 := (ai (ai (ai (ai @wkh @bqP_nil) (ai @bqP_cons @wur)) (ai (ai @wxac @bq_str) (ai @bq_ptr (ai @bq_nilP @bq_nilS)))) (ai (ai (ai @wyac @bq_FL) (ai @bq_FO @chg_same)) (ai (ai @refs_int @ren_int) (ai @wizb (ai @ren_bool @wxjb)))))
def sy28 := (ai (ai (ai (ai @wjrb @wrfb) (ai @wyjb @refs_FL)) (ai (ai @ren_FL @refs_FP) (ai @ren_FP (ai @wjzb @ren_nilP)))) (ai (ai (ai @wkzb @ren_nilF) (ai @wlzb @ren_nilI)) (ai (ai @wsyb @wzqb) (ai @ne_eq.{1} (ai @not_false_eq_true @not_true_eq_false)))))
def zS := (ai (ai (ai (ai @sy0 (ai @sy1 @sy2)) (ai (ai @sy3 @sy4) (ai @sy5 @sy6))) (ai (ai @sy7 (ai @sy8 @sy9)) (ai (ai @sy10 @sy11) (ai @sy12 @sy13)))) (ai (ai (ai @sy14 (ai @sy15 @sy16)) (ai (ai @sy17 @sy18) (ai @sy19 @sy20))) (ai (ai (ai @sy21 @sy22) (ai @sy23 @sy24)) (ai (ai @sy25 @sy26) (ai @sy27 @sy28)))))
def zA := (ai @Bool.and_eq_true (ai @and_true @true_and))
def zH := (ai (ai (ai @decide_eq_true_eq @decide_eq_false_iff_not) (ai @Bool.not_true @Bool.not_false)) (ai (ai @Bool.not_eq_true @Bool.not_eq_false) (ai @Classical.not_not @ne_eq.{1})))
def zT := (ai (ai (ai (ai (ai (ai @wbnb @wnw) (ai @whz @whsb)) (ai (ai @wow @slots_0) (ai @slots_00 @wdbc))) (ai (ai (ai @webc @wht) (ai @wfbc @wgbc)) (ai (ai @whbc @wdgb) (ai @wibc (ai @wif @wrkb))))) (ai (ai (ai (ai @mt_eqL @wiz) (ai @wqt @wtkb)) (ai (ai @wkbc @st_get0) (ai @st_get1 @wmbc))) (ai (ai (ai @wlbc @st_set0) (ai @st_over1 @st_over8)) (ai (ai @wccb @wnbc) (ai @wobc (ai @wdcb @sts_fz)))))) (ai (ai (ai (ai (ai @wecb @wdg) (ai @wpbc @wcu)) (ai (ai @wqe @wegb) (ai @wjsb @rx_get0))) (ai (ai (ai @rx_get1 @rx_get2) (ai @rx_get3 @rx_get8)) (ai (ai @wtbc @wubc) (ai @wsw (ai @wwo @rxs_fz))))) (ai (ai (ai (ai @wjz @set_flat) (ai @eqc_agg @wexb)) (ai (ai @rx_kind @rx_mn) (ai @rx_mx @rx_n))) (ai (ai (ai @rx_set @wrbc) (ai @mt_bq @wqbc)) (ai (ai @sts_bq @mts_bq) (ai @set_bq (ai @rx_bq @rxs_bq)))))))
def zD := (ai (ai (ai (ai @wht (ai @wiz @wobc)) (ai @wpbc (ai @wegb @wsw))) (ai (ai @wkw (ai @wif @wqt)) (ai @sts_fz (ai @wqe @wjsb)))) (ai (ai (ai @rxs_fz (ai @wjz @wrkb)) (ai @wccb (ai @wmw @mt_bq))) (ai (ai @wqbc (ai @sts_bq @mts_bq)) (ai @set_bq (ai @rx_bq @rxs_bq)))))
theorem z1 : type_of% @wabc := @wabc
theorem z2 : type_of% @wzmb := @wzmb
theorem z3 : type_of% @gd_ok := @gd_ok
theorem z4 : type_of% @gdD_ok := @gdD_ok
theorem z5 : type_of% @wdz := @wdz
theorem z6 : type_of% @AccLe.chg := @AccLe.chg
theorem z7 : type_of% @AccLe.same := @AccLe.same
end Go.Den
namespace Go.Proofs.Ytdbhfmdndiphcaa
open Go.Den
noncomputable section
theorem mixed : Try.prog.follows .mixedOrders = true := by kernel_rfl
def rawC (f : FuncId) : Bool × Bool := bif Nat.beq f 105 then (true, true) else (false, false)
def ownC (f : FuncId) : Bool := !([52, 53, 66, 71] : List Nat).any fun k => Nat.beq k f
def cfgC0 : Cfg := { raw := fun _ => (false, false), own := ownC, live := fun _ _ => none, glob := fun _ => none, know := wjmb }
theorem wbcc : ∀ c, wvib (den Try.prog cfgC0 100 (.call 105 [.slice none 0 c]) AH0) = true := fun c => by kernel_rfl
theorem clone_no : wvib (den Try.prog cfgC0 100 (.call 105 [.slice (some ⟨0, 0, none⟩) 0 0]) AH0) = true := by kernel_rfl
def knowC : FuncId → Option (List Value → Option Value) := wweb [105] wjmb
theorem knowC_ok : wth Try.prog (fun _ => none) knowC :=
  wevb (fun f hf => by
      rw [List.mem_singleton] at hf
      subst hf
      exact known_no (cfg := cfgC0) wuv mixed wbcc clone_no) wuv
def cfgC : Cfg := { raw := rawC, own := ownC, live := fun _ _ => none, glob := fun _ => none, know := knowC }
theorem wggb : wgbb (den Try.prog cfgC 3000 (.call 29 []) AH0) = true := by kernel_rfl
theorem wvx : wxl Try.prog (fun _ => none) 29 [] (.bool true) := wppb (cfg := cfgC) knowC_ok mixed wggb
end
end Go.Proofs.Ytdbhfmdndiphcaa
namespace Go.Proofs.Ytdbhfmdndiphcaa
open Go.Den
noncomputable section
def live8 (i : Nat) : Option (List Tmp × List Tmp × Nat) := bif Nat.beq i 4 then some ([5, 6, 7, 21, 22], [5, 6, 7], 999999) else bif Nat.beq i 13 then some ([5, 6, 9, 10, 11], [5, 6, 9, 10], 999999) else bif Nat.beq i 20 then some ([5, 6, 9, 10, 12], [5, 6, 9, 10], 999999) else bif Nat.beq i 25 then some ([5, 6, 9, 10, 13, 90, 91, 92], [4, 5, 9, 10, 13], 999999) else none
def live26 (i : Nat) : Option (List Tmp × List Tmp × Nat) := bif Nat.beq i 3 then some ([0, 1, 5, 6], [5], 999999) else none
def live27 (i : Nat) : Option (List Tmp × List Tmp × Nat) := bif Nat.beq i 4 then some ([1, 2, 5, 6, 7], [4, 5], 999999) else none
def live28 (i : Nat) : Option (List Tmp × List Tmp × Nat) := bif Nat.beq i 4 then some ([1, 3, 6, 8], [6, 7], 999999) else bif Nat.beq i 8 then some ([1, 3, 6, 8, 9, 10, 43, 44, 45], [1, 3, 6, 8, 9, 10], 999999) else none
def live30 (i : Nat) : Option (List Tmp × List Tmp × Nat) := bif Nat.beq i 3 then some ([0, 1, 3], [0, 1], 999999) else none
def live37 (i : Nat) : Option (List Tmp × List Tmp × Nat) := bif Nat.beq i 3 then some ([2, 3, 6, 7, 8], [2, 3], 999999) else none
def live38 (i : Nat) : Option (List Tmp × List Tmp × Nat) := bif Nat.beq i 4 then some ([0, 1, 5], [4], 999999) else none
def live62 (i : Nat) : Option (List Tmp × List Tmp × Nat) := bif Nat.beq i 3 then some ([3, 7, 8, 9], [3], 999999) else none
def live63 (i : Nat) : Option (List Tmp × List Tmp × Nat) := bif Nat.beq i 18 then some ([4, 5, 8, 80, 81, 82], [8], 999999) else bif Nat.beq i 27 then some ([3, 5, 11, 108, 109, 110], [11], 999999) else bif Nat.beq i 34 then some ([3, 7, 128, 129, 130], [7], 999999) else none
def live78 (i : Nat) : Option (List Tmp × List Tmp × Nat) := bif Nat.beq i 4 then some ([3, 17, 18, 19], [4], 999999) else none
def live79 (i : Nat) : Option (List Tmp × List Tmp × Nat) := bif Nat.beq i 12 then some ([0, 2, 77, 78, 79], [6], 999999) else none
def live86 (i : Nat) : Option (List Tmp × List Tmp × Nat) := bif Nat.beq i 1 then some ([0, 6, 7, 8], [], 999999) else none
def live87 (i : Nat) : Option (List Tmp × List Tmp × Nat) := bif Nat.beq i 3 then some ([3, 4, 7, 11, 12, 13], [7], 999999) else none
def live88 (i : Nat) : Option (List Tmp × List Tmp × Nat) := bif Nat.beq i 5 then some ([0, 1, 5, 52, 53, 54], [0, 1, 5], 999999) else none
def live157 (i : Nat) : Option (List Tmp × List Tmp × Nat) := bif Nat.beq i 2 then some ([0, 1, 7, 8], [4], 999999) else none
def live158 (i : Nat) : Option (List Tmp × List Tmp × Nat) := bif Nat.beq i 2 then some ([0, 1, 7, 8], [4], 999999) else none
def liveT (f i : Nat) : Option (List Tmp × List Tmp × Nat) := bif Nat.blt f 63 then (bif Nat.blt f 30 then (bif Nat.blt f 27 then (bif Nat.blt f 26 then (bif Nat.beq f 8 then live8 i else none) else (bif Nat.beq f 26 then live26 i else none)) else (bif Nat.blt f 28 then (bif Nat.beq f 27 then live27 i else none) else (bif Nat.beq f 28 then live28 i else none))) else (bif Nat.blt f 38 then (bif Nat.blt f 37 then (bif Nat.beq f 30 then live30 i else none) else (bif Nat.beq f 37 then live37 i else none)) else (bif Nat.blt f 62 then (bif Nat.beq f 38 then live38 i else none) else (bif Nat.beq f 62 then live62 i else none)))) else (bif Nat.blt f 87 then (bif Nat.blt f 79 then (bif Nat.blt f 78 then (bif Nat.beq f 63 then live63 i else none) else (bif Nat.beq f 78 then live78 i else none)) else (bif Nat.blt f 86 then (bif Nat.beq f 79 then live79 i else none) else (bif Nat.beq f 86 then live86 i else none))) else (bif Nat.blt f 157 then (bif Nat.blt f 88 then (bif Nat.beq f 87 then live87 i else none) else (bif Nat.beq f 88 then live88 i else none)) else (bif Nat.blt f 158 then (bif Nat.beq f 157 then live157 i else none) else (bif Nat.beq f 158 then live158 i else none))))
def tabK : List (FuncId × List Value × Value) := [(29, [], .bool true)]
def cfg : Cfg := { raw := fun f => (false, false), own := fun f => true, live := liveT, glob := fun _ => none, know := wwib tabK wjmb }
theorem hc : PlainA cfg := ⟨fun _ => rfl⟩
theorem wci : wth Try.prog cfg.glob cfg.know := wopb (fun e he => by
  simp only [tabK, List.mem_cons, List.not_mem_nil, or_false] at he
  subst he; exact wvx) wuv
theorem wccc {rec : Rec} {f : FuncId} {args : List Value} {H : AH} : callS Try.prog cfg rec f args H = wfeb rec f H (wkg Try.prog H 20 args) (cfg.know f) := rfl
def G0 : (Nat → Option (List Value)) × Bool := (fun _ => none, true)
theorem g0_K : G0.2 = true := rfl
theorem g_K {f : FuncId} : (cfg.glob, cfg.own f) = G0 := rfl
theorem kn_K : cfg.know 15 = none ∧ cfg.know 26 = none ∧ cfg.know 27 = none ∧ cfg.know 28 = none ∧ cfg.know 30 = none ∧ cfg.know 36 = none ∧ cfg.know 37 = none ∧ cfg.know 38 = none ∧ cfg.know 40 = none ∧ cfg.know 58 = none ∧ cfg.know 62 = none ∧ cfg.know 63 = none ∧ cfg.know 78 = none ∧ cfg.know 79 = none ∧ cfg.know 83 = none ∧ cfg.know 84 = none ∧ cfg.know 85 = none ∧ cfg.know 86 = none ∧ cfg.know 87 = none ∧ cfg.know 88 = none ∧ cfg.know 96 = none ∧ cfg.know 97 = none ∧ cfg.know 108 = none ∧ cfg.know 127 = none ∧ cfg.know 128 = none ∧ cfg.know 147 = none ∧ cfg.know 149 = none ∧ cfg.know 157 = none ∧ cfg.know 158 = none := ⟨rfl, rfl, rfl, rfl, rfl, rfl, rfl, rfl, rfl, rfl, rfl, rfl, rfl, rfl, rfl, rfl, rfl, rfl, rfl, rfl, rfl, rfl, rfl, rfl, rfl, rfl, rfl, rfl, rfl⟩
theorem kw_K : ∀ (rec : Rec) (H : AH) (fr : Frs), wfeb rec 29 H (some ([], fr)) (cfg.know 29) = .did (.bool true) none true (raise H fr) (wxm fr) := fun _ _ _ => by kernel_rfl
theorem tsz_K : tsz Try.prog 3 = 1 ∧ tsz Try.prog 5 = 1 ∧ tsz Try.prog 47 = 9 ∧ tsz Try.prog 55 = 8 ∧ tsz Try.prog 113 = 9 := ⟨by kernel_rfl, by kernel_rfl, by kernel_rfl, by kernel_rfl, by kernel_rfl⟩
theorem kK : (type_of% @wccc ∧ type_of% @g_K) ∧ (type_of% @g0_K ∧ type_of% @tsz_K) ∧ (type_of% @kn_K ∧ type_of% @kw_K) := ⟨⟨@wccc, @g_K⟩, ⟨@g0_K, @tsz_K⟩, ⟨@kn_K, @kw_K⟩⟩
theorem wkc : cfg.live 8 (wvc (wz 0)) = some ([5, 6, 7, 21, 22], [5, 6, 7], 999999) := by kernel_rfl
theorem wdb : cfg.live 8 (wvc (wz 1)) = some ([5, 6, 9, 10, 11], [5, 6, 9, 10], 999999) := by kernel_rfl
theorem wpc : cfg.live 8 (wvc (wz 2)) = some ([5, 6, 9, 10, 12], [5, 6, 9, 10], 999999) := by kernel_rfl
theorem wob : cfg.live 8 (wvc (wz 3)) = some ([5, 6, 9, 10, 13, 90, 91, 92], [4, 5, 9, 10, 13], 999999) := by kernel_rfl
theorem wzf : cfg.live 26 (wvc (wvg 0)) = some ([0, 1, 5, 6], [5], 999999) := by kernel_rfl
theorem wxb : cfg.live 27 (wvc (wck 0)) = some ([1, 2, 5, 6, 7], [4, 5], 999999) := by kernel_rfl
theorem wpd : cfg.live 28 (wvc (wze 0)) = some ([1, 3, 6, 8], [6, 7], 999999) := by kernel_rfl
theorem wre : cfg.live 28 (wvc (wze 1)) = some ([1, 3, 6, 8, 9, 10, 43, 44, 45], [1, 3, 6, 8, 9, 10], 999999) := by kernel_rfl
theorem wlm : cfg.live 30 (wvc (wfm 0)) = some ([0, 1, 3], [0, 1], 999999) := by kernel_rfl
theorem wzn : cfg.live 37 (wvc (wil 0)) = some ([2, 3, 6, 7, 8], [2, 3], 999999) := by kernel_rfl
theorem wag : cfg.live 38 (wvc (whf 0)) = some ([0, 1, 5], [4], 999999) := by kernel_rfl
theorem wmm : cfg.live 62 (wvc (whm 0)) = some ([3, 7, 8, 9], [3], 999999) := by kernel_rfl
theorem wbe : cfg.live 63 (wvc (wdc 0)) = some ([4, 5, 8, 80, 81, 82], [8], 999999) := by kernel_rfl
theorem wqd : cfg.live 63 (wvc (wdc 1)) = some ([3, 5, 11, 108, 109, 110], [11], 999999) := by kernel_rfl
theorem wce : cfg.live 63 (wvc (wdc 2)) = some ([3, 7, 128, 129, 130], [7], 999999) := by kernel_rfl
theorem wbc : cfg.live 79 (wvc (wug 0)) = some ([0, 2, 77, 78, 79], [6], 999999) := by kernel_rfl
theorem wwc : cfg.live 86 (wvc (wlf 0)) = some ([0, 6, 7, 8], [], 999999) := by kernel_rfl
theorem wrd : cfg.live 87 (wvc (wcg 0)) = some ([3, 4, 7, 11, 12, 13], [7], 999999) := by kernel_rfl
theorem wcb : cfg.live 88 (wvc (wae 0)) = some ([0, 1, 5, 52, 53, 54], [0, 1, 5], 999999) := by kernel_rfl
theorem wcc : cfg.live 157 (wvc (wad 0)) = some ([0, 1, 7, 8], [4], 999999) := by kernel_rfl
theorem wxc : cfg.live 158 (wvc (wfe 0)) = some ([0, 1, 7, 8], [4], 999999) := by kernel_rfl
end
end Go.Proofs.Ytdbhfmdndiphcaa
namespace Go.Proofs.Ytdbhfmdndiphcaa
set_option linter.unusedVariables false
set_option linter.unusedSimpArgs false
open Go.Den
noncomputable section
def wnm (n lo hi : Int) : Int := if n.tmod (hi - lo + 1) < 0 then lo + (n.tmod (hi - lo + 1) + hi - lo + 1) else lo + n.tmod (hi - lo + 1)
theorem wdcc (n lo hi : Int) (h1 : -1000000 ≤ lo) (h2 : lo ≤ hi) (h3 : hi ≤ 1000000) : lim Try.prog cfg (.call 15 [.int .i64 n, .int .i64 lo, .int .i64 hi]) (HP []) = some (.val (.int .i64 (wnm n lo hi)), HP []) := by
  refine wjc hc wbn (Nat.le_of_ble_eq_true rfl) (Nat.le_of_ble_eq_true rfl) ?_
  unfold wbk wnm
  have hb : -(hi - lo + 1) < n.tmod (hi - lo + 1) ∧ n.tmod (hi - lo + 1) < hi - lo + 1 := by
    have := Int.emod_nonneg n (show hi - lo + 1 ≠ 0 by omega)
    have h5 := Int.emod_lt_of_pos n (show 0 < hi - lo + 1 by omega)
    rw [Int.tmod_eq_emod]
    split <;> omega
  (repeat' (first | (simp -implicitDefEqProofs (maxSteps := 2000000) (disch := first | with_reducible assumption | omega | (simp only [zS, zA, Nat.reduceEqDiff, Nat.reduceLT, Nat.reduceLeDiff, Nat.reduceAdd, Nat.reduceSub, reduceCtorEq] <;> omega) | fail) only [zS, argl, insA, Go.Den.wm, wo, wu, looks, wfb, web, idOf, riA, Nat.reduceLeDiff, Nat.reduceLT, Nat.reduceEqDiff, Nat.reduceDiv, Nat.reduceMod, Int.reduceLT, Int.reduceLE, Int.reduceEq, Int.reduceNeg, Int.reduceToNat, Int.reduceSub, Int.reduceMul, Int.reduceNe, Nat.reduceAdd, Nat.reduceMul, Nat.reduceSub, Int.reduceAdd, reduceCtorEq, Go.Den.wh, kK, *]) | (with_reducible (first | apply z1 | apply z2 | apply z3 | apply z4) <;> intro hq <;> (try simp only [zH] at hq) <;> (try (exfalso; omega)))))
def waj : Mt := ⟨[-1, -1, -1, -1, -1, -1, -1, -1], rfl⟩
theorem whgb (m : Mt) (i j : Nat) (a : Int) : (m.put i a).at j = if i = j ∧ j < 8 then a else m.at j := by
  rw [Mt.at, Mt.at, Mt.put, List.getD_eq_getElem?_getD, List.getD_eq_getElem?_getD, List.getElem?_set, m.2]
  by_cases h1 : i = j
  · subst h1
    by_cases h2 : i < 8
    · simp [h2]
    · have h3 := m.2
      simp [h2]
      rw [List.getElem?_eq_none (by omega)]
      rfl
  · simp [h1]
theorem wecc (z : List Value) : ∀ (k i : Nat) (m : Mt), i + k = 4 → (∀ j, j < 2 * i → m.at j = -1) →
    lim Try.prog cfg (.loop 30 0 (wfm 0) (SE (EJ 11 G0) [(3, .int .i64 i), (1, .pointer (some ⟨1, 0, none⟩)), (0, .pointer (some ⟨0, 0, none⟩))])) (HP [X z 55 0 true, X (mtC m) 55 0 true]) = some (.code (.exit 0) (SE (EJ 11 G0) [(1, .pointer (some ⟨1, 0, none⟩)), (0, .pointer (some ⟨0, 0, none⟩))]), HP [X z 55 0 true, X (mtC waj) 55 0 true]) := by
  intro k
  induction k with
  | zero =>
    intro i m hi hm
    have : m = waj := by
      apply Subtype.ext
      apply List.ext_getElem (by rw [m.2]; rfl)
      intro j h1 h2
      have h3 := hm j (by rw [m.2] at h1; omega)
      rw [Mt.at, List.getD_eq_getElem?_getD, List.getElem?_eq_getElem h1] at h3
      have h4 : waj.1[j] = -1 := by
        have : ∀ x ∈ waj.1, x = -1 := by decide
        exact this _ (List.getElem_mem h2)
      rw [h4]
      exact h3
    subst this
    refine ww wqm ?_
    unfold wgm
    (repeat' (first | (simp -implicitDefEqProofs (maxSteps := 2000000) (disch := first | with_reducible assumption | omega | (simp only [zS, zA, Nat.reduceEqDiff, Nat.reduceLT, Nat.reduceLeDiff, Nat.reduceAdd, Nat.reduceSub, reduceCtorEq, zD] <;> omega) | fail) only [zS, argl, insA, Go.Den.wm, wo, wu, looks, wfb, web, idOf, riA, Nat.reduceLeDiff, Nat.reduceLT, Nat.reduceEqDiff, Nat.reduceDiv, Nat.reduceMod, Int.reduceLT, Int.reduceLE, Int.reduceEq, Int.reduceNeg, Int.reduceToNat, Int.reduceSub, Int.reduceMul, Int.reduceNe, Nat.reduceAdd, Nat.reduceMul, Nat.reduceSub, Int.reduceAdd, reduceCtorEq, Go.Den.wh, kK, wlm, *, zT]) | (with_reducible (first | apply z1 | apply z2 | apply z3 | apply z4) <;> intro hq <;> (try simp only [zH] at hq) <;> (try (exfalso; omega)))))
  | succ k ih =>
    intro i m hi hm
    refine ww wqm ?_
    unfold wgm
    (repeat' (first | (simp -implicitDefEqProofs (maxSteps := 2000000) (disch := first | with_reducible assumption | omega | (simp only [zS, zA, Nat.reduceEqDiff, Nat.reduceLT, Nat.reduceLeDiff, Nat.reduceAdd, Nat.reduceSub, reduceCtorEq, zD] <;> omega) | fail) only [zS, argl, insA, Go.Den.wm, wo, wu, looks, wfb, web, idOf, riA, Nat.reduceLeDiff, Nat.reduceLT, Nat.reduceEqDiff, Nat.reduceDiv, Nat.reduceMod, Int.reduceLT, Int.reduceLE, Int.reduceEq, Int.reduceNeg, Int.reduceToNat, Int.reduceSub, Int.reduceMul, Int.reduceNe, Nat.reduceAdd, Nat.reduceMul, Nat.reduceSub, Int.reduceAdd, reduceCtorEq, Go.Den.wh, kK, wlm, *, zT]) | (with_reducible (first | apply z1 | apply z2 | apply z3 | apply z4) <;> intro hq <;> (try simp only [zH] at hq) <;> (try (exfalso; omega)))))
    refine ih (i + 1) _ (by omega) fun j hj => ?_
    rw [whgb, whgb]
    split
    · rfl
    · split
      · rfl
      · exact hm j (by omega)
theorem wfcc : lim Try.prog cfg (.call 30 []) (HP []) = some (.val (.agg ⟨mtC waj⟩), HP []) := by
  refine wjc hc wnx (Nat.le_of_ble_eq_true rfl) (Nat.le_of_ble_eq_true rfl) ?_
  unfold wcw
  have h := wecc (mtC Mt.zero) 4 0 Mt.zero rfl (fun j hj => by omega)
  rw [show ((0 : Nat) : Int) = 0 from rfl, show mtC Mt.zero = [.int .i64 0, .int .i64 0, .int .i64 0, .int .i64 0, .int .i64 0, .int .i64 0, .int .i64 0, .int .i64 0] from rfl] at h
  (repeat' (first | (simp -implicitDefEqProofs (maxSteps := 2000000) (disch := first | with_reducible assumption | omega | (simp only [zS, zA, Nat.reduceEqDiff, Nat.reduceLT, Nat.reduceLeDiff, Nat.reduceAdd, Nat.reduceSub, reduceCtorEq, zD] <;> omega) | fail) only [zS, argl, insA, Go.Den.wm, wo, wu, looks, wfb, web, idOf, riA, Nat.reduceLeDiff, Nat.reduceLT, Nat.reduceEqDiff, Nat.reduceDiv, Nat.reduceMod, Int.reduceLT, Int.reduceLE, Int.reduceEq, Int.reduceNeg, Int.reduceToNat, Int.reduceSub, Int.reduceMul, Int.reduceNe, Nat.reduceAdd, Nat.reduceMul, Nat.reduceSub, Int.reduceAdd, reduceCtorEq, Go.Den.wh, kK, wlm, h, *, zT]) | (with_reducible (first | apply z1 | apply z2 | apply z3 | apply z4) <;> intro hq <;> (try simp only [zH] at hq) <;> (try (exfalso; omega)))))
theorem ev_Has (s : BitVec 256) (x : Nat) (hx : x < 256) : lim Try.prog cfg (.call 83 [.agg ⟨setC s⟩, .int .u8 x]) (HP []) = some (.val (.bool (s.getLsbD x)), HP []) := by
  refine wjc hc wtx (Nat.le_of_ble_eq_true rfl) (Nat.le_of_ble_eq_true rfl) ?_
  unfold wiw
  have h1 : BitVec.ofInt (IntKind.bits .u64) 1 = BitVec.ofInt (IntKind.bits .u64) (((1#64).toNat : Nat) : Int) := rfl
  (repeat' (first | (simp -implicitDefEqProofs (maxSteps := 2000000) (disch := first | with_reducible assumption | omega | (simp only [zS, zA, Nat.reduceEqDiff, Nat.reduceLT, Nat.reduceLeDiff, Nat.reduceAdd, Nat.reduceSub, reduceCtorEq, zD] <;> omega) | fail) only [zS, argl, insA, Go.Den.wm, wo, wu, looks, wfb, web, idOf, riA, Nat.reduceLeDiff, Nat.reduceLT, Nat.reduceEqDiff, Nat.reduceDiv, Nat.reduceMod, Int.reduceLT, Int.reduceLE, Int.reduceEq, Int.reduceNeg, Int.reduceToNat, Int.reduceSub, Int.reduceMul, Int.reduceNe, Nat.reduceAdd, Nat.reduceMul, Nat.reduceSub, Int.reduceAdd, reduceCtorEq, Go.Den.wh, kK, wanb, shr_u64, h1, and_u64, bit_one, *, zT]) | (with_reducible (first | apply z1 | apply z2 | apply z3 | apply z4) <;> intro hq <;> (try simp only [zH] at hq) <;> (try (exfalso; omega)))))
  have e1 : ((x : Int) / 64).toNat = x / 64 := by omega
  have e2 : ((x : Int) % 64).toNat = x % 64 := by omega
  rw [e1, e2, has_bit s x hx]
end
end Go.Proofs.Ytdbhfmdndiphcaa
namespace Go.Den
noncomputable section
def addF : List St → List St → List St
  | l, [] => l
  | l, x :: xs => addF (if x ∈ l then l else l ++ [x]) xs
theorem wxr {l xs : List St} {x : St} : addF l (x :: xs) = addF (if x ∈ l then l else l ++ [x]) xs := rfl
theorem wgcb {y : St} : ∀ (xs l : List St), y ∈ addF l xs ↔ y ∈ l ∨ y ∈ xs := by
  intro xs
  induction xs with
  | nil => intro l; simp [addF]
  | cons x xs ih =>
    intro l
    rw [wxr, ih]
    by_cases h : x ∈ l
    · rw [if_pos h]
      constructor
      · rintro (h1 | h1)
        · exact .inl h1
        · exact .inr (List.mem_cons_of_mem _ h1)
      · rintro (h1 | h1)
        · exact .inl h1
        · rcases List.mem_cons.1 h1 with rfl | h1
          · exact .inl h
          · exact .inr h1
    · rw [if_neg h]
      simp only [List.mem_append, List.mem_cons, List.not_mem_nil, or_false]
      constructor
      · rintro ((h1 | h1) | h1)
        · exact .inl h1
        · exact .inr (.inl h1)
        · exact .inr (.inr h1)
      · rintro (h1 | h1 | h1)
        · exact .inl (.inl h1)
        · exact .inl (.inr h1)
        · exact .inr h1
theorem wlsb : ∀ (xs l : List St), l.Nodup → (addF l xs).Nodup := by
  intro xs
  induction xs with
  | nil => intro l h; exact h
  | cons x xs ih =>
    intro l h
    rw [wxr]
    by_cases hx : x ∈ l
    · rw [if_pos hx]; exact ih l h
    · rw [if_neg hx]
      refine ih _ ?_
      rw [List.nodup_append]
      refine ⟨h, by simp, ?_⟩
      intro a ha b hb
      rw [List.mem_singleton] at hb
      subst hb
      intro hab
      subst hab
      exact hx ha
theorem wenb : ∀ (xs l : List St), l.length ≤ (addF l xs).length := by
  intro xs
  induction xs with
  | nil => intro l; exact Nat.le_refl _
  | cons x xs ih =>
    intro l
    rw [wxr]
    refine Nat.le_trans ?_ (ih _)
    split
    · exact Nat.le_refl _
    · simp
theorem woh {l xs : List St} (h : l ≠ [] ∨ xs ≠ []) : addF l xs ≠ [] := by
  intro he
  rcases h with h | h
  · obtain ⟨a, ha⟩ := List.exists_mem_of_ne_nil l h
    have := (wgcb xs l).2 (.inl ha)
    rw [he] at this; cases this
  · obtain ⟨a, ha⟩ := List.exists_mem_of_ne_nil xs h
    have := (wgcb xs l).2 (.inr ha)
    rw [he] at this; cases this
def keyF (mn mx n : Int) (x : St) : Int × St := (if mx < 0 then min n mn else n, x)
def onF (w : St → List St) (mn mx : Int) : Nat → Int → St → List (Int × St) × List St → List (Int × St) × List St
  | 0, _, _, a => a
  | k + 1, n, x, a =>
    if keyF mn mx n x ∈ a.1 then a
    else
      let b := if mx < 0 ∨ n < mx then (w x).foldl (fun b y => if y.1 ≠ x.1 ∨ n < mn then onF w mn mx k (n + 1) y b else b) (a.1 ++ [keyF mn mx n x], a.2) else (a.1 ++ [keyF mn mx n x], a.2)
      if n ≥ mn then (b.1, addF b.2 [x]) else b
def wmsb (s : List UInt8) (n : Int) (x : St) : List St :=
  if x.2.at (n.toNat * 2) < 0 then []
  else if x.2.at (n.toNat * 2 + 1) - x.2.at (n.toNat * 2) > s.length - x.1 then []
  else if (s.take (x.2.at (n.toNat * 2 + 1)).toNat).drop (x.2.at (n.toNat * 2)).toNat ≠ (s.take (x.1 + (x.2.at (n.toNat * 2 + 1) - x.2.at (n.toNat * 2))).toNat).drop x.1.toNat then []
  else [(x.1 + (x.2.at (n.toNat * 2 + 1) - x.2.at (n.toNat * 2)), x.2)]
def whcb (w : St → List St) (l : List St) : List St := l.foldl (fun out y => addF out (w y)) []
def groupW (n : Int) (x : St) (l : List St) : List St := l.foldl (fun out y => addF out [(y.1, (y.2.put (n.toNat * 2) x.1).put (n.toNat * 2 + 1) y.1)]) []
mutual
def wpf (s : List UInt8) (bol : Bool) : Rx → St → List St
  | .mk k mn mx n set kids, x =>
    if k = 1 then (if x.1 < s.length ∧ set.getLsbD (s.getD x.1.toNat 0).toNat = true then [(x.1 + 1, x.2)] else [])
    else if k = 7 then (if x.1 = 0 ∧ bol = true then [x] else [])
    else if k = 8 then (if x.1 = s.length then [x] else [])
    else if k = 6 then wmsb s n x
    else if k = 5 then groupW n x (kidF s bol kids x)
    else if k = 3 then altF s bol kids x []
    else if k = 2 then catF s bol kids [x]
    else if k = 4 then (onF (fun y => kidF s bol kids y) mn mx 100 0 x ([], [])).2
    else []
def kidF (s : List UInt8) (bol : Bool) : List Rx → St → List St
  | [], _ => []
  | r :: _, x => wpf s bol r x
def altF (s : List UInt8) (bol : Bool) : List Rx → St → List St → List St
  | [], _, out => out
  | r :: rs, x, out => altF s bol rs x (addF out (wpf s bol r x))
def catF (s : List UInt8) (bol : Bool) : List Rx → List St → List St
  | [], l => l
  | r :: rs, l => catF s bol rs (whcb (fun y => wpf s bol r y) l)
end
mutual
def okR : Rx → Bool
  | .mk k mn mx n _ kids =>
    (if k = 5 then decide (kids ≠ []) && (decide (1 ≤ n) && decide (n ≤ 3)) else if k = 4 then decide (kids ≠ []) && (decide (0 ≤ mn) && (decide (mn ≤ 20) && (decide (-1 ≤ mx) && decide (mx ≤ 20)))) else if k = 6 then decide (1 ≤ n) && decide (n ≤ 3) else true) && okRs kids
def okRs : List Rx → Bool
  | [] => true
  | r :: rs => okR r && okRs rs
end
def wgcc (len : Nat) (a b : Int) : Prop := (a = -1 ∧ b = -1) ∨ (0 ≤ a ∧ a ≤ b ∧ b ≤ len)
structure GdS (len : Nat) (x : St) : Prop where
  lo : 0 ≤ x.1
  hi : x.1 ≤ len
  m0 : x.2.at 0 = -1
  m1 : x.2.at 1 = -1
  sp : ∀ g : Nat, 1 ≤ g → g ≤ 3 → wgcc len (x.2.at (g * 2)) (x.2.at (g * 2 + 1))
theorem Mt.at_put (m : Mt) (i j : Nat) (a : Int) : (m.put i a).at j = if i = j ∧ j < 8 then a else m.at j := by
  rw [Mt.at, Mt.at, Mt.put, List.getD_eq_getElem?_getD, List.getD_eq_getElem?_getD, List.getElem?_set, m.2]
  by_cases h1 : i = j
  · subst h1
    by_cases h2 : i < 8
    · simp [h2]
    · have h3 := m.2
      simp [h2]
      rw [List.getElem?_eq_none (by omega)]
      rfl
  · simp [h1]
theorem GdS.move {len : Nat} {x : St} (h : GdS len x) {a : Int} (h1 : 0 ≤ a) (h2 : a ≤ len) : GdS len (a, x.2) := ⟨h1, h2, h.m0, h.m1, h.sp⟩
theorem GdS.group {len : Nat} {x y : St} (hx : GdS len x) (hy : GdS len y) (hxy : x.1 ≤ y.1) {n : Int} (n1 : 1 ≤ n) (n3 : n ≤ 3) : GdS len (y.1, (y.2.put (n.toNat * 2) x.1).put (n.toNat * 2 + 1) y.1) := by
  refine ⟨hy.lo, hy.hi, ?_, ?_, fun g g1 g3 => ?_⟩
  · show Mt.at _ 0 = -1
    rw [Mt.at_put, if_neg (by omega), Mt.at_put, if_neg (by omega)]; exact hy.m0
  · show Mt.at _ 1 = -1
    rw [Mt.at_put, if_neg (by omega), Mt.at_put, if_neg (by omega)]; exact hy.m1
  · show wgcc len (Mt.at _ (g * 2)) (Mt.at _ (g * 2 + 1))
    rw [Mt.at_put, Mt.at_put, Mt.at_put, Mt.at_put]
    by_cases h : n.toNat = g
    · rw [if_neg (by omega), if_pos (by omega), if_pos (by omega)]
      exact .inr ⟨hx.lo, hxy, hy.hi⟩
    · rw [if_neg (by omega), if_neg (by omega), if_neg (by omega), if_neg (by omega)]
      exact hy.sp g g1 g3
structure RwS (len : Nat) (at0 : Int) (l : List St) : Prop where
  nd : l.Nodup
  good : ∀ y ∈ l, GdS len y ∧ at0 ≤ y.1
theorem RwS.nil {len : Nat} {a : Int} : RwS len a [] := ⟨List.nodup_nil, fun y h => (by cases h)⟩
theorem RwS.one {len : Nat} {a : Int} {x : St} (h : GdS len x) (ha : a ≤ x.1) : RwS len a [x] := ⟨by simp, fun y hy => by rw [List.mem_singleton] at hy; subst hy; exact ⟨h, ha⟩⟩
theorem RwS.add {len : Nat} {a : Int} {l xs : List St} (h : RwS len a l) (hx : ∀ y ∈ xs, GdS len y ∧ a ≤ y.1) : RwS len a (addF l xs) :=
  ⟨wlsb _ _ h.nd, fun y hy => by rcases (wgcb _ _).1 hy with h1 | h1; exact h.good y h1; exact hx y h1⟩
theorem RwS.fold {len : Nat} {a : Int} {α : Type} (f : α → List St) : ∀ (l : List α), (∀ z ∈ l, ∀ y ∈ f z, GdS len y ∧ a ≤ y.1) → ∀ out, RwS len a out → RwS len a (l.foldl (fun out z => addF out (f z)) out) := by
  intro l
  induction l with
  | nil => intro _ out h; exact h
  | cons z l ih =>
    intro hf out h
    exact ih (fun z' hz' => hf z' (List.mem_cons_of_mem _ hz')) _ (h.add (hf z (List.mem_cons_self ..)))
theorem wigb {len : Nat} {a0 : Int} {w : St → List St} {mn mx : Int} (hw : ∀ x, GdS len x → a0 ≤ x.1 → RwS len x.1 (w x)) : ∀ (k : Nat) (n : Int) (x : St) (a : List (Int × St) × List St), GdS len x → a0 ≤ x.1 → RwS len a0 a.2 → RwS len a0 (onF w mn mx k n x a).2 := by
  intro k
  induction k with
  | zero => intro n x a _ _ h; exact h
  | succ k ih =>
    intro n x a hx hxa h
    have hf : ∀ (l : List St), (∀ y ∈ l, GdS len y ∧ x.1 ≤ y.1) → ∀ b : List (Int × St) × List St, RwS len a0 b.2 → RwS len a0 (l.foldl (fun b y => if y.1 ≠ x.1 ∨ n < mn then onF w mn mx k (n + 1) y b else b) b).2 := by
      intro l
      induction l with
      | nil => intro _ b hb; exact hb
      | cons y l ih2 =>
        intro hl b hb
        have hy := hl y (List.mem_cons_self ..)
        refine ih2 (fun z hz => hl z (List.mem_cons_of_mem _ hz)) _ ?_
        show RwS len a0 (if y.1 ≠ x.1 ∨ n < mn then onF w mn mx k (n + 1) y b else b).2
        split
        · exact ih _ _ _ hy.1 (by omega) hb
        · exact hb
    unfold onF
    split
    · exact h
    · simp only
      have hb : RwS len a0 (if mx < 0 ∨ n < mx then (w x).foldl (fun b y => if y.1 ≠ x.1 ∨ n < mn then onF w mn mx k (n + 1) y b else b) (a.1 ++ [keyF mn mx n x], a.2) else (a.1 ++ [keyF mn mx n x], a.2)).2 := by
        split
        · exact hf (w x) (hw x hx hxa).good _ h
        · exact h
      split
      · exact hb.add (fun y hy => by rw [List.mem_singleton] at hy; subst hy; exact ⟨hx, hxa⟩)
      · exact hb
theorem back_row {len : Nat} {s : List UInt8} (hs : s.length = len) {n : Int} (n1 : 1 ≤ n) (n3 : n ≤ 3) {x : St} (hx : GdS len x) : RwS len x.1 (wmsb s n x) := by
  unfold wmsb
  split
  · exact .nil
  rename_i h0
  split
  · exact .nil
  rename_i h1
  split
  · exact .nil
  have h := hx.sp n.toNat (by omega) (by omega)
  have hlo := hx.lo
  have hhi := hx.hi
  rcases h with h | h
  · omega
  · exact .one (hx.move (by omega) (by omega)) (by show x.1 ≤ x.1 + _; omega)
theorem wicb {len : Nat} {s : List UInt8} (hs : s.length = len) {bol : Bool} : ∀ (r : Rx), okR r = true → ∀ x, GdS len x → RwS len x.1 (wpf s bol r x) := by
  refine Rx.rec (motive_1 := fun r => okR r = true → ∀ x, GdS len x → RwS len x.1 (wpf s bol r x))
    (motive_2 := fun kids => okRs kids = true → (∀ r ∈ kids, ∀ x, GdS len x → RwS len x.1 (wpf s bol r x))) ?_ ?_ ?_
  · intro k mn mx n set kids ih hok x hx
    rw [okR, Bool.and_eq_true] at hok
    have hk := ih hok.2
    have kid : kids ≠ [] → ∀ y, GdS len y → RwS len y.1 (kidF s bol kids y) := by
      intro hne y hy
      cases kids with
      | nil => exact absurd rfl hne
      | cons r rs => rw [kidF]; exact hk r (List.mem_cons_self ..) y hy
    rw [wpf]
    have hlo := hx.lo
    split
    · split
      · rename_i h; exact .one (hx.move (by omega) (by omega)) (by show x.1 ≤ x.1 + 1; omega)
      · exact .nil
    split
    · split
      · exact .one hx (Int.le_refl _)
      · exact .nil
    split
    · split
      · exact .one hx (Int.le_refl _)
      · exact .nil
    split
    · rename_i h6
      have h := hok.1
      rw [if_neg (by omega), if_neg (by omega), if_pos h6] at h
      simp only [Bool.and_eq_true, decide_eq_true_eq] at h
      exact back_row hs h.1 h.2 hx
    split
    · rename_i h5
      have h := hok.1
      rw [if_pos h5] at h
      simp only [Bool.and_eq_true, decide_eq_true_eq] at h
      refine RwS.fold (fun y : St => [(y.1, (y.2.put (n.toNat * 2) x.1).put (n.toNat * 2 + 1) y.1)]) _ (fun z hz y hy => ?_) _ .nil
      rw [List.mem_singleton] at hy
      subst hy
      have hz := (kid h.1 x hx).good z hz
      exact ⟨hx.group hz.1 hz.2 h.2.1 h.2.2, hz.2⟩
    split
    · have alt : ∀ (l : List Rx), (∀ r ∈ l, ∀ x, GdS len x → RwS len x.1 (wpf s bol r x)) → ∀ out, RwS len x.1 out → RwS len x.1 (altF s bol l x out) := by
        intro l
        induction l with
        | nil => intro _ out h; rw [altF]; exact h
        | cons r l ih =>
          intro hl out h
          rw [altF]
          exact ih (fun r hr => hl r (List.mem_cons_of_mem _ hr)) _ (h.add (hl r (List.mem_cons_self ..) x hx).good)
      exact alt kids hk [] .nil
    split
    · have cat : ∀ (l : List Rx), (∀ r ∈ l, ∀ x, GdS len x → RwS len x.1 (wpf s bol r x)) → ∀ out, RwS len x.1 out → RwS len x.1 (catF s bol l out) := by
        intro l
        induction l with
        | nil => intro _ out h; rw [catF]; exact h
        | cons r l ih =>
          intro hl out h
          rw [catF]
          refine ih (fun r hr => hl r (List.mem_cons_of_mem _ hr)) _ ?_
          refine RwS.fold (fun y => wpf s bol r y) _ (fun z hz y hy => ?_) _ .nil
          have h1 := h.good z hz
          have h2 := (hl r (List.mem_cons_self ..) z h1.1).good y hy
          exact ⟨h2.1, by omega⟩
      exact cat kids hk [x] (.one hx (Int.le_refl _))
    split
    · rename_i h4
      have h := hok.1
      rw [if_neg (by omega), if_pos h4] at h
      simp only [Bool.and_eq_true, decide_eq_true_eq] at h
      exact wigb (a0 := x.1) (fun y hy _ => kid h.1 y hy) 100 0 x _ hx (Int.le_refl _) .nil
    · exact .nil
  · intro _ r hr; cases hr
  · intro r rs ih1 ih2 hok
    rw [okRs, Bool.and_eq_true] at hok
    intro r' hr'
    rcases List.mem_cons.1 hr' with rfl | h
    · exact ih1 hok.1
    · exact ih2 hok.2 r' h
theorem nodup_le {α : Type} [DecidableEq α] : ∀ (l L : List α), l.Nodup → (∀ x ∈ l, x ∈ L) → l.length ≤ L.length := by
  intro l
  induction l with
  | nil => intro L _ _; exact Nat.zero_le _
  | cons a l ih =>
    intro L hn hs
    rw [List.nodup_cons] at hn
    have ha := hs a (List.mem_cons_self ..)
    have h1 := ih (L.erase a) hn.2 (fun x hx => by
      refine (List.mem_erase_of_ne ?_).2 (hs x (List.mem_cons_of_mem _ hx))
      intro h
      subst h
      exact hn.1 hx)
    rw [List.length_erase_of_mem ha] at h1
    have := List.length_pos_of_mem ha
    rw [List.length_cons]
    omega
theorem wjcb {α β : Type} {f : α → List β} {k : Nat} (h : ∀ a, (f a).length = k) (l : List α) : (l.flatMap f).length = l.length * k := by
  induction l with
  | nil => simp
  | cons a l ih => rw [List.flatMap_cons, List.length_append, h, ih, List.length_cons, Nat.add_mul]; omega
def whi (len : Nat) : List (Int × Int) := (-1, -1) :: (List.range (len + 1)).flatMap fun (a : Nat) => (List.range (len + 1 - a)).map fun (d : Nat) => ((a : Int), ((a + d : Nat) : Int))
def allSt (len : Nat) : List St := (List.range (len + 1)).flatMap fun (a : Nat) => (whi len).flatMap fun p => (whi len).flatMap fun q => (whi len).map fun r => ((a : Int), ⟨[-1, -1, p.1, p.2, q.1, q.2, r.1, r.2], rfl⟩)
theorem wtw {len : Nat} {a b : Int} (h : wgcc len a b) : (a, b) ∈ whi len := by
  unfold whi
  rcases h with ⟨rfl, rfl⟩ | ⟨h1, h2, h3⟩
  · exact List.mem_cons_self ..
  · refine List.mem_cons_of_mem _ (List.mem_flatMap.2 ⟨a.toNat, List.mem_range.2 (by omega), List.mem_map.2 ⟨(b - a).toNat, List.mem_range.2 (by omega), ?_⟩⟩)
    rw [Prod.mk.injEq]
    exact ⟨by omega, by omega⟩
theorem all_mem {len : Nat} {x : St} (h : GdS len x) : x ∈ allSt len := by
  obtain ⟨a, ⟨l, hl⟩⟩ := x
  match l, hl with
  | [c0, c1, c2, c3, c4, c5, c6, c7], hl =>
    obtain ⟨h1, h2, h3, h4, h5⟩ := h
    have e0 : c0 = -1 := h3
    have e1 : c1 = -1 := h4
    subst e0 e1
    have s1 := wtw (h5 1 (by omega) (by omega))
    have s2 := wtw (h5 2 (by omega) (by omega))
    have s3 := wtw (h5 3 (by omega) (by omega))
    have h1 : 0 ≤ a := h1
    have h2 : a ≤ len := h2
    refine List.mem_flatMap.2 ⟨a.toNat, List.mem_range.2 (by omega), List.mem_flatMap.2 ⟨_, s1, List.mem_flatMap.2 ⟨_, s2, List.mem_map.2 ⟨_, s3, ?_⟩⟩⟩⟩
    rw [Prod.mk.injEq]
    exact ⟨by omega, rfl⟩
theorem whcc : ∀ len : Nat, len ≤ 12 → (whi len).length ≤ 92 := by
  intro len h
  match len, h with
  | 0, _ => decide
  | 1, _ => decide
  | 2, _ => decide
  | 3, _ => decide
  | 4, _ => decide
  | 5, _ => decide
  | 6, _ => decide
  | 7, _ => decide
  | 8, _ => decide
  | 9, _ => decide
  | 10, _ => decide
  | 11, _ => decide
  | 12, _ => decide
theorem row_len {len : Nat} {a : Int} {l : List St} (h : RwS len a l) (hl : len ≤ 12) : l.length ≤ 11000000 := by
  have h1 := nodup_le l (allSt len) h.nd (fun x hx => all_mem (h.good x hx).1)
  have h2 : (allSt len).length = (len + 1) * ((whi len).length * ((whi len).length * (whi len).length)) := by
    unfold allSt
    rw [wjcb (k := (whi len).length * ((whi len).length * (whi len).length)), List.length_range]
    intro a
    rw [wjcb (k := (whi len).length * (whi len).length)]
    intro p
    rw [wjcb (k := (whi len).length)]
    intro q
    rw [List.length_map]
  have h3 := whcc len hl
  have h4 : (len + 1) * ((whi len).length * ((whi len).length * (whi len).length)) ≤ 13 * (92 * (92 * 92)) :=
    Nat.mul_le_mul (by omega) (Nat.mul_le_mul h3 (Nat.mul_le_mul h3 h3))
  omega
end
end Go.Den
namespace Go.Proofs.Ytdbhfmdndiphcaa
set_option linter.unusedVariables false
set_option linter.unusedSimpArgs false
open Go.Den
noncomputable section
theorem wwx : KeyT Try.prog 113 stC :=
  ⟨by kernel_rfl, ⟨[.int .i64, .int .i64, .int .i64, .int .i64, .int .i64, .int .i64, .int .i64, .int .i64, .int .i64], by kernel_rfl, fun _ => wccb⟩, fun _ _ => wnbc, fun _ => wtkb⟩
theorem wkb (l : List St) : beqP (setK stC l) (setK stC l) = true := wzbc (fun _ => wqbc) l
theorem wbj : lim Try.prog cfg (.call 85 []) (HP []) = some (.val (.pointer (some ⟨0, 0, none⟩)), HP [X [.slice none 0 0, .map (some 1)] 158 0 false, .map []]) := by
  refine wjc hc wpt (Nat.le_of_ble_eq_true rfl) (Nat.le_of_ble_eq_true rfl) ?_
  unfold wwr
  (repeat' (first | (simp -implicitDefEqProofs (maxSteps := 2000000) (disch := first | with_reducible assumption | omega | (simp only [zS, zA, Nat.reduceEqDiff, Nat.reduceLT, Nat.reduceLeDiff, Nat.reduceAdd, Nat.reduceSub, reduceCtorEq, zD] <;> omega) | fail) only [zS, argl, insA, Go.Den.wm, wo, wu, looks, wfb, web, idOf, riA, Nat.reduceLeDiff, Nat.reduceLT, Nat.reduceEqDiff, Nat.reduceDiv, Nat.reduceMod, Int.reduceLT, Int.reduceLE, Int.reduceEq, Int.reduceNeg, Int.reduceToNat, Int.reduceSub, Int.reduceMul, Int.reduceNe, Nat.reduceAdd, Nat.reduceMul, Nat.reduceSub, Int.reduceAdd, reduceCtorEq, Go.Den.wh, kK, *, zT]) | (with_reducible (first | apply z1 | apply z2 | apply z3 | apply z4) <;> intro hq <;> (try simp only [zH] at hq) <;> (try (exfalso; omega)))))
abbrev rowB (l : List St) : List ABlk := [X [FO 2 l.length (stsC l), .map (some 1)] 158 0 false, .map (setK stC l), .tok l.length 113 9]
abbrev rowC (l : List St) : List ABlk := [X [FO 1 l.length (stsC l), .map (some 2)] 158 0 false, .tok l.length 113 9, .map (setK stC l)]
abbrev rowN : List ABlk := [X [.slice none 0 0, .map (some 1)] 158 0 false, .map []]
theorem wqg (xs : List St) {i : Nat} (h : i < xs.length) : xs.drop i = xs.getD i St.zero :: xs.drop (i + 1) := by
  rw [List.drop_eq_getElem_cons h, List.getD_eq_getElem?_getD, List.getElem?_eq_getElem h]; rfl
theorem wicc (xs : List St) (hx : xs.length ≤ 16000000) : ∀ (k i : Nat) (l : List St), i + k = xs.length → l ≠ [] → (addF l (xs.drop i)).length ≤ 16000000 →
    lim Try.prog cfg (.loop 86 3 (wlf 0) (SE (EJ 35 G0) [(8, .int .i64 i), (7, .int .i64 xs.length), (6, FL xs.length (stsC xs)), (0, .pointer (some ⟨0, 0, none⟩))])) (HP (rowC l)) = some (.code (.exit 0) (SE (EJ 35 G0) []), HP (rowC (addF l (xs.drop i)))) := by
  intro k
  induction k with
  | zero =>
    intro i l hi hl hn
    rw [List.drop_of_length_le (by omega)]
    refine ww wwd ?_
    unfold wde
    (repeat' (first | (simp -implicitDefEqProofs (maxSteps := 2000000) (disch := first | with_reducible assumption | omega | (simp only [zS, zA, Nat.reduceEqDiff, Nat.reduceLT, Nat.reduceLeDiff, Nat.reduceAdd, Nat.reduceSub, reduceCtorEq, wab, zD] <;> omega) | fail) only [zS, argl, insA, Go.Den.wm, wo, wu, looks, wfb, web, idOf, riA, Nat.reduceLeDiff, Nat.reduceLT, Nat.reduceEqDiff, Nat.reduceDiv, Nat.reduceMod, Int.reduceLT, Int.reduceLE, Int.reduceEq, Int.reduceNeg, Int.reduceToNat, Int.reduceSub, Int.reduceMul, Int.reduceNe, Nat.reduceAdd, Nat.reduceMul, Nat.reduceSub, Int.reduceAdd, reduceCtorEq, Go.Den.wh, kK, wwc, wab, *, zT]) | (with_reducible (first | apply z1 | apply z2 | apply z3 | apply z4) <;> intro hq <;> (try simp only [zH] at hq) <;> (try (exfalso; omega))) | (with_reducible apply z5; (case hl => (repeat (first | exact .nil | with_reducible apply z6 | with_reducible apply z7))); (case h => kernel_rfl))))
    all_goals rfl
  | succ k ih =>
    intro i l hi hl hn
    rw [wqg xs (by omega), addF] at hn ⊢
    refine ww wwd ?_
    unfold wde
    have hn2 := Nat.le_trans (wenb _ _) hn
    by_cases hm : xs.getD i St.zero ∈ l
    · rw [if_pos hm] at hn hn2 ⊢
      (repeat' (first | (simp -implicitDefEqProofs (maxSteps := 2000000) (disch := first | with_reducible assumption | omega | (simp only [zS, zA, Nat.reduceEqDiff, Nat.reduceLT, Nat.reduceLeDiff, Nat.reduceAdd, Nat.reduceSub, reduceCtorEq, wab, zD] <;> omega) | fail) only [zS, argl, insA, Go.Den.wm, wo, wu, looks, wfb, web, idOf, riA, Nat.reduceLeDiff, Nat.reduceLT, Nat.reduceEqDiff, Nat.reduceDiv, Nat.reduceMod, Int.reduceLT, Int.reduceLE, Int.reduceEq, Int.reduceNeg, Int.reduceToNat, Int.reduceSub, Int.reduceMul, Int.reduceNe, Nat.reduceAdd, Nat.reduceMul, Nat.reduceSub, Int.reduceAdd, reduceCtorEq, Go.Den.wh, kK, wwc, wab, wod wwx, wmf wwx, *, zT]) | (with_reducible (first | apply z1 | apply z2 | apply z3 | apply z4) <;> intro hq <;> (try simp only [zH] at hq) <;> (try (exfalso; omega))) | (with_reducible apply z5; (case hl => (repeat (first | exact .nil | with_reducible apply z6 | with_reducible apply z7))); (case h => kernel_rfl))))
      exact ih (i + 1) l (by omega) hl hn
    · rw [if_neg hm] at hn hn2 ⊢
      have hn3 : l.length + 1 ≤ 16000000 := by rw [List.length_append] at hn2; exact hn2
      (repeat' (first | (simp -implicitDefEqProofs (maxSteps := 2000000) (disch := first | with_reducible assumption | omega | (simp only [zS, zA, Nat.reduceEqDiff, Nat.reduceLT, Nat.reduceLeDiff, Nat.reduceAdd, Nat.reduceSub, reduceCtorEq, wab, zD] <;> omega) | fail) only [zS, argl, insA, Go.Den.wm, wo, wu, looks, wfb, web, idOf, riA, Nat.reduceLeDiff, Nat.reduceLT, Nat.reduceEqDiff, Nat.reduceDiv, Nat.reduceMod, Int.reduceLT, Int.reduceLE, Int.reduceEq, Int.reduceNeg, Int.reduceToNat, Int.reduceSub, Int.reduceMul, Int.reduceNe, Nat.reduceAdd, Nat.reduceMul, Nat.reduceSub, Int.reduceAdd, reduceCtorEq, Go.Den.wh, kK, wwc, wab, wod wwx, wmf wwx, *, zT]) | (with_reducible (first | apply z1 | apply z2 | apply z3 | apply z4) <;> intro hq <;> (try simp only [zH] at hq) <;> (try (exfalso; omega))) | (with_reducible apply z5; (case hl => (repeat (first | exact .nil | with_reducible apply z6 | with_reducible apply z7))); (case h => kernel_rfl))))
      have h := ih (i + 1) (l ++ [xs.getD i St.zero]) (by omega) (by simp) hn
      unfold rowC at h
      rw [show (l ++ [xs.getD i St.zero]).length = l.length + 1 by simp, wcnb] at h
      exact h
theorem wjcc (xs : List St) (hx : xs.length ≤ 16000000) : ∀ (k i : Nat) (l : List St), i + k = xs.length → l ≠ [] → (addF l (xs.drop i)).length ≤ 16000000 →
    lim Try.prog cfg (.loop 86 2 (wlf 0) (SE (EJ 35 G0) [(8, .int .i64 i), (7, .int .i64 xs.length), (6, FL xs.length (stsC xs)), (0, .pointer (some ⟨0, 0, none⟩))])) (HP (rowB l)) = some (.code (.exit 0) (SE (EJ 35 G0) []), HP (rowB (addF l (xs.drop i)))) := by
  intro k
  induction k with
  | zero =>
    intro i l hi hl hn
    rw [List.drop_of_length_le (by omega)]
    refine ww wwd ?_
    unfold wde
    (repeat' (first | (simp -implicitDefEqProofs (maxSteps := 2000000) (disch := first | with_reducible assumption | omega | (simp only [zS, zA, Nat.reduceEqDiff, Nat.reduceLT, Nat.reduceLeDiff, Nat.reduceAdd, Nat.reduceSub, reduceCtorEq, wab, zD] <;> omega) | fail) only [zS, argl, insA, Go.Den.wm, wo, wu, looks, wfb, web, idOf, riA, Nat.reduceLeDiff, Nat.reduceLT, Nat.reduceEqDiff, Nat.reduceDiv, Nat.reduceMod, Int.reduceLT, Int.reduceLE, Int.reduceEq, Int.reduceNeg, Int.reduceToNat, Int.reduceSub, Int.reduceMul, Int.reduceNe, Nat.reduceAdd, Nat.reduceMul, Nat.reduceSub, Int.reduceAdd, reduceCtorEq, Go.Den.wh, kK, wwc, wab, *, zT]) | (with_reducible (first | apply z1 | apply z2 | apply z3 | apply z4) <;> intro hq <;> (try simp only [zH] at hq) <;> (try (exfalso; omega))) | (with_reducible apply z5; (case hl => (repeat (first | exact .nil | with_reducible apply z6 | with_reducible apply z7))); (case h => kernel_rfl))))
    all_goals rfl
  | succ k ih =>
    intro i l hi hl hn
    rw [wqg xs (by omega), addF] at hn ⊢
    refine ww wwd ?_
    unfold wde
    have hn2 := Nat.le_trans (wenb _ _) hn
    by_cases hm : xs.getD i St.zero ∈ l
    · rw [if_pos hm] at hn hn2 ⊢
      (repeat' (first | (simp -implicitDefEqProofs (maxSteps := 2000000) (disch := first | with_reducible assumption | omega | (simp only [zS, zA, Nat.reduceEqDiff, Nat.reduceLT, Nat.reduceLeDiff, Nat.reduceAdd, Nat.reduceSub, reduceCtorEq, wab, zD] <;> omega) | fail) only [zS, argl, insA, Go.Den.wm, wo, wu, looks, wfb, web, idOf, riA, Nat.reduceLeDiff, Nat.reduceLT, Nat.reduceEqDiff, Nat.reduceDiv, Nat.reduceMod, Int.reduceLT, Int.reduceLE, Int.reduceEq, Int.reduceNeg, Int.reduceToNat, Int.reduceSub, Int.reduceMul, Int.reduceNe, Nat.reduceAdd, Nat.reduceMul, Nat.reduceSub, Int.reduceAdd, reduceCtorEq, Go.Den.wh, kK, wwc, wab, wod wwx, wmf wwx, *, zT]) | (with_reducible (first | apply z1 | apply z2 | apply z3 | apply z4) <;> intro hq <;> (try simp only [zH] at hq) <;> (try (exfalso; omega))) | (with_reducible apply z5; (case hl => (repeat (first | exact .nil | with_reducible apply z6 | with_reducible apply z7))); (case h => kernel_rfl))))
      exact ih (i + 1) l (by omega) hl hn
    · rw [if_neg hm] at hn hn2 ⊢
      have hn3 : l.length + 1 ≤ 16000000 := by rw [List.length_append] at hn2; exact hn2
      (repeat' (first | (simp -implicitDefEqProofs (maxSteps := 2000000) (disch := first | with_reducible assumption | omega | (simp only [zS, zA, Nat.reduceEqDiff, Nat.reduceLT, Nat.reduceLeDiff, Nat.reduceAdd, Nat.reduceSub, reduceCtorEq, wab, zD] <;> omega) | fail) only [zS, argl, insA, Go.Den.wm, wo, wu, looks, wfb, web, idOf, riA, Nat.reduceLeDiff, Nat.reduceLT, Nat.reduceEqDiff, Nat.reduceDiv, Nat.reduceMod, Int.reduceLT, Int.reduceLE, Int.reduceEq, Int.reduceNeg, Int.reduceToNat, Int.reduceSub, Int.reduceMul, Int.reduceNe, Nat.reduceAdd, Nat.reduceMul, Nat.reduceSub, Int.reduceAdd, reduceCtorEq, Go.Den.wh, kK, wwc, wab, wod wwx, wmf wwx, *, zT]) | (with_reducible (first | apply z1 | apply z2 | apply z3 | apply z4) <;> intro hq <;> (try simp only [zH] at hq) <;> (try (exfalso; omega))) | (with_reducible apply z5; (case hl => (repeat (first | exact .nil | with_reducible apply z6 | with_reducible apply z7))); (case h => kernel_rfl))))
      have h := ih (i + 1) (l ++ [xs.getD i St.zero]) (by omega) (by simp) hn
      unfold rowB at h
      rw [show (l ++ [xs.getD i St.zero]).length = l.length + 1 by simp, wcnb] at h
      exact h
theorem wkcc (xs : List St) (hx : xs.length ≤ 16000000) (h0 : xs ≠ []) (hn : (addF [] xs).length ≤ 16000000) :
    lim Try.prog cfg (.loop 86 2 (wlf 0) (SE (EJ 35 G0) [(8, .int .i64 0), (7, .int .i64 xs.length), (6, FL xs.length (stsC xs)), (0, .pointer (some ⟨0, 0, none⟩))])) (HP rowN) = some (.code (.exit 0) (SE (EJ 35 G0) []), HP (rowB (addF [] xs))) := by
  have hl : 0 < xs.length := List.length_pos_iff.2 h0
  have e : addF [] xs = addF [xs.getD 0 St.zero] (xs.drop 1) := by
    have h1 := wqg xs hl
    rw [List.drop_zero] at h1
    conv => lhs; rw [h1]
    rw [wxr, if_neg (by simp)]
    rfl
  rw [e] at hn ⊢
  refine ww wwd ?_
  unfold wde
  have hg := wdcb (l := xs) (i := 0) hl
  rw [Nat.zero_mul] at hg
  have hm : xs.getD 0 St.zero ∉ ([] : List St) := by simp
  (repeat' (first | (simp -implicitDefEqProofs (maxSteps := 2000000) (disch := first | with_reducible assumption | omega | (simp only [zS, zA, Nat.reduceEqDiff, Nat.reduceLT, Nat.reduceLeDiff, Nat.reduceAdd, Nat.reduceSub, reduceCtorEq, wab, zD] <;> omega) | fail) only [zS, argl, insA, Go.Den.wm, wo, wu, looks, wfb, web, idOf, riA, Nat.reduceLeDiff, Nat.reduceLT, Nat.reduceEqDiff, Nat.reduceDiv, Nat.reduceMod, Int.reduceLT, Int.reduceLE, Int.reduceEq, Int.reduceNeg, Int.reduceToNat, Int.reduceSub, Int.reduceMul, Int.reduceNe, Nat.reduceAdd, Nat.reduceMul, Nat.reduceSub, Int.reduceAdd, reduceCtorEq, Go.Den.wh, kK, wwc, wab, wfcb (enc := stC), wod wwx, wmf wwx, *, zT]) | (with_reducible (first | apply z1 | apply z2 | apply z3 | apply z4) <;> intro hq <;> (try simp only [zH] at hq) <;> (try (exfalso; omega))) | (with_reducible apply z5; (case hl => (repeat (first | exact .nil | with_reducible apply z6 | with_reducible apply z7))); (case h => kernel_rfl))))
  have h := wjcc xs hx (xs.length - 1) 1 [xs.getD 0 St.zero] (by omega) (by simp) hn
  unfold rowB at h
  rw [show [xs.getD 0 St.zero].length = 1 from rfl, ← sts_one] at h
  exact h
theorem wxo (l xs : List St) (hl : l ≠ []) (hx : xs.length ≤ 16000000) (hn : (addF l xs).length ≤ 16000000) : lim Try.prog cfg (.call 86 [.pointer (some ⟨0, 0, none⟩), FL xs.length (stsC xs)]) (HP (rowC l)) = some (.val (.tuple ⟨[]⟩), HP (rowC (addF l xs))) := by
  refine wjc hc wmi (Nat.le_of_ble_eq_true rfl) (Nat.le_of_ble_eq_true rfl) ?_
  unfold wqi
  have h := wicc xs hx xs.length 0 l (by omega) hl hn
  rw [List.drop_zero, show ((0 : Nat) : Int) = 0 from rfl] at h
  (repeat' (first | (simp -implicitDefEqProofs (maxSteps := 2000000) (disch := first | with_reducible assumption | omega | (simp only [zS, zA, Nat.reduceEqDiff, Nat.reduceLT, Nat.reduceLeDiff, Nat.reduceAdd, Nat.reduceSub, reduceCtorEq, wab, zD] <;> omega) | fail) only [zS, argl, insA, Go.Den.wm, wo, wu, looks, wfb, web, idOf, riA, Nat.reduceLeDiff, Nat.reduceLT, Nat.reduceEqDiff, Nat.reduceDiv, Nat.reduceMod, Int.reduceLT, Int.reduceLE, Int.reduceEq, Int.reduceNeg, Int.reduceToNat, Int.reduceSub, Int.reduceMul, Int.reduceNe, Nat.reduceAdd, Nat.reduceMul, Nat.reduceSub, Int.reduceAdd, reduceCtorEq, Go.Den.wh, kK, wwc, wab, *, zT]) | (with_reducible (first | apply z1 | apply z2 | apply z3 | apply z4) <;> intro hq <;> (try simp only [zH] at hq) <;> (try (exfalso; omega)))))
theorem wyr (xs : List St) (h0 : xs ≠ []) (hx : xs.length ≤ 16000000) (hn : (addF [] xs).length ≤ 16000000) : lim Try.prog cfg (.call 86 [.pointer (some ⟨0, 0, none⟩), FL xs.length (stsC xs)]) (HP rowN) = some (.val (.tuple ⟨[]⟩), HP (rowB (addF [] xs))) := by
  refine wjc hc wmi (Nat.le_of_ble_eq_true rfl) (Nat.le_of_ble_eq_true rfl) ?_
  unfold wqi
  have h := wkcc xs hx h0 hn
  (repeat' (first | (simp -implicitDefEqProofs (maxSteps := 2000000) (disch := first | with_reducible assumption | omega | (simp only [zS, zA, Nat.reduceEqDiff, Nat.reduceLT, Nat.reduceLeDiff, Nat.reduceAdd, Nat.reduceSub, reduceCtorEq, wab, zD] <;> omega) | fail) only [zS, argl, insA, Go.Den.wm, wo, wu, looks, wfb, web, idOf, riA, Nat.reduceLeDiff, Nat.reduceLT, Nat.reduceEqDiff, Nat.reduceDiv, Nat.reduceMod, Int.reduceLT, Int.reduceLE, Int.reduceEq, Int.reduceNeg, Int.reduceToNat, Int.reduceSub, Int.reduceMul, Int.reduceNe, Nat.reduceAdd, Nat.reduceMul, Nat.reduceSub, Int.reduceAdd, reduceCtorEq, Go.Den.wh, kK, wwc, wab, *, zT]) | (with_reducible (first | apply z1 | apply z2 | apply z3 | apply z4) <;> intro hq <;> (try simp only [zH] at hq) <;> (try (exfalso; omega)))))
theorem wfnb : lim Try.prog cfg (.call 86 [.pointer (some ⟨0, 0, none⟩), FL 0 []]) (HP rowN) = some (.val (.tuple ⟨[]⟩), HP rowN) := by
  refine wjc hc wmi (Nat.le_of_ble_eq_true rfl) (Nat.le_of_ble_eq_true rfl) ?_
  unfold wqi
  have h : lim Try.prog cfg (.loop 86 2 (wlf 0) (SE (EJ 35 G0) [(8, .int .i64 0), (7, .int .i64 0), (6, FL 0 []), (0, .pointer (some ⟨0, 0, none⟩))])) (HP rowN) = some (.code (.exit 0) (SE (EJ 35 G0) []), HP rowN) := by
    refine ww wwd ?_
    unfold wde
    (repeat' (first | (simp -implicitDefEqProofs (maxSteps := 2000000) (disch := first | with_reducible assumption | omega | (simp only [zS, zA, Nat.reduceEqDiff, Nat.reduceLT, Nat.reduceLeDiff, Nat.reduceAdd, Nat.reduceSub, reduceCtorEq, zD] <;> omega) | fail) only [zS, argl, insA, Go.Den.wm, wo, wu, looks, wfb, web, idOf, riA, Nat.reduceLeDiff, Nat.reduceLT, Nat.reduceEqDiff, Nat.reduceDiv, Nat.reduceMod, Int.reduceLT, Int.reduceLE, Int.reduceEq, Int.reduceNeg, Int.reduceToNat, Int.reduceSub, Int.reduceMul, Int.reduceNe, Nat.reduceAdd, Nat.reduceMul, Nat.reduceSub, Int.reduceAdd, reduceCtorEq, Go.Den.wh, kK, wwc, *, zT]) | (with_reducible (first | apply z1 | apply z2 | apply z3 | apply z4) <;> intro hq <;> (try simp only [zH] at hq) <;> (try (exfalso; omega))) | (with_reducible apply z5; (case hl => (repeat (first | exact .nil | with_reducible apply z6 | with_reducible apply z7))); (case h => kernel_rfl))))
  (repeat' (first | (simp -implicitDefEqProofs (maxSteps := 2000000) (disch := first | with_reducible assumption | omega | (simp only [zS, zA, Nat.reduceEqDiff, Nat.reduceLT, Nat.reduceLeDiff, Nat.reduceAdd, Nat.reduceSub, reduceCtorEq, zD] <;> omega) | fail) only [zS, argl, insA, Go.Den.wm, wo, wu, looks, wfb, web, idOf, riA, Nat.reduceLeDiff, Nat.reduceLT, Nat.reduceEqDiff, Nat.reduceDiv, Nat.reduceMod, Int.reduceLT, Int.reduceLE, Int.reduceEq, Int.reduceNeg, Int.reduceToNat, Int.reduceSub, Int.reduceMul, Int.reduceNe, Nat.reduceAdd, Nat.reduceMul, Nat.reduceSub, Int.reduceAdd, reduceCtorEq, Go.Den.wh, kK, wwc, Int.natCast_zero, *, zT]) | (with_reducible (first | apply z1 | apply z2 | apply z3 | apply z4) <;> intro hq <;> (try simp only [zH] at hq) <;> (try (exfalso; omega))) | (with_reducible apply z5; (case hl => (repeat (first | exact .nil | with_reducible apply z6 | with_reducible apply z7))); (case h => kernel_rfl))))
end
end Go.Proofs.Ytdbhfmdndiphcaa
