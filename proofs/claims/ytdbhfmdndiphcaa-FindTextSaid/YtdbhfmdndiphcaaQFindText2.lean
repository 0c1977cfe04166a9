/-
  PARTS OF A PROOF, joined by a program (2 of 6): a proved reckoner of the model, and what the functions come to.
-/
import Derived.Test.YtdbhfmdndiphcaaQFindText1
import GoSem.Extern.Table
import Derived.Lib.MakeNoZero
import Derived.LoopN
import Derived.Orders
set_option linter.unusedVariables false
set_option linter.unusedSimpArgs false
namespace Go.Den
noncomputable section
variable {P : Program}
theorem wrdb {ρ : Ren} {B : Nat} {H : AH} {w : World} {s : Sem Next} {fresh : Nat} {v : Value} : ResOK P ρ B H w s fresh (effV v none) := trivial
theorem wsdb {ρ : Ren} {a : Addr} {len c : Nat} {v : Value} (h : VR ρ (.slice (some a) len (c + 1)) v) : ∃ a', v = .slice (some a') len c := by
  cases h with
  | flat h => simp [Go.Den.flat] at h
  | sliceExact h => exact ⟨_, rfl⟩
  | sliceNo => exact ⟨_, rfl⟩
theorem wmab {ρ : Ren} {B : Nat} {H : AH} {w : World} (hR : Rel ρ B H w) {at_ : Array TypeId} {ty elem : TypeId} {ti : TypeInfo} {z : Value} (hT : AppTys P at_ elem ti z) {fresh : Nat} {s s' x' : Value} (hs : VR ρ s s') (hn : (Builtin.lenOf x').run P w = .ok 0 w)
    (hnew : (Builtin.firstCells ti.size 0 x').run P w = .ok #[] w) : ResOK P ρ B H w (wud (Builtin.append_ at_ ty #[s', x'])) fresh (wlu H ti.size s) := by
  have fin : ∀ (a : Addr) (len c : Nat), s' = .slice (some a) len c → len ≤ c → (wud (Builtin.append_ at_ ty #[s', x'])).run P w = .ok (.value s') w := by
    intro a len c e h
    subst e
    have := wyt (ty := ty) hT (a := a) (len := len) (cap := c) (w' := w) hn hnew (by omega) (by simp [storeCells])
    rw [wjb, this]
    rfl
  have out : (wud (Builtin.append_ at_ ty #[s', x'])).run P w = .ok (.value s') w → ResOK P ρ B H w (wud (Builtin.append_ at_ ty #[s', x'])) fresh (.eff s H) :=
    fun h _ => ⟨_, s', w, ρ, h, rfl, hs, hR, .refl ρ H w⟩
  unfold wlu
  split
  · refine out ?_
    rw [hs.of_flat rfl]
    obtain ⟨st, xt, d, h1, h2, h3, h4, h5⟩ := hT.ex
    rw [wjb]
    rcases h5 with ⟨e2, rfl⟩ | rfl <;> simp [Builtin.append_, h1, h3, wlb h2, wtc hT.info, hn, hnew, wlb h4]
  · rename_i a len
    cases hq : whj ti.size a H ((len + 1) * ti.size) with
    | false => rw [cond_false]; trivial
    | true =>
      rw [cond_true]
      obtain ⟨l, g1, g2⟩ := hs.slice_inv (.inl (by omega))
      obtain ⟨r1, r2, r3, r4⟩ := wvj hR hq g1
      exact out (fin _ _ _ g2 (by simp only [capOf, r1]; omega))
  · rename_i a len c
    cases hq : Nat.ble len c with
    | false => rw [cond_false]; trivial
    | true =>
      rw [cond_true]
      have hq' := Nat.le_of_ble_eq_true hq
      obtain ⟨a', g2⟩ := wsdb hs
      exact out (fin _ _ _ g2 hq')
  · unfold wtt
    split
    · rename_i q hq
      refine out ?_
      rcases hs.row_inv hq with ⟨a', c', h1, h2, h3⟩ | ⟨b, o, c', f, g1, g0, g2, g3⟩
      · cases a' with
        | none =>
          rw [h3]
          obtain ⟨st, xt, d, h1, h2, h3, h4, h5⟩ := hT.ex
          rw [wjb]
          rcases h5 with ⟨e2, rfl⟩ | rfl <;> simp [Builtin.append_, h1, h3, wlb h2, wtc hT.info, hn, hnew, wlb h4]
        | some a' => exact fin _ _ _ h3 (Nat.zero_le _)
      · exact fin _ _ _ g1 g0
    · trivial
theorem wtlb {ρ : Ren} {B : Nat} {H : AH} {w : World} (hR : Rel ρ B H w) : Rel ρ B H w.drew :=
  ⟨fun id ver l b h1 h3 => (hR.blk id ver l b h1 h3).keep (.refl ρ) rfl, hR.wf, hR.low, hR.sep, hR.bnd, hR.base, ⟨hR.fz.cell, hR.fz.sep⟩⟩
theorem wex {own : Bool} {ρ : Ren} {B : Nat} {H : AH} {w : World} (hR : Rel ρ B H w) {at_ : Array TypeId} {ty elem : TypeId} {ti : TypeInfo} {z : Value} (hT : AppTys P at_ elem ti z) {fresh n len c : Nat} {a : Addr} {s' x' : Value} {new : List Value}
    (hs : VR ρ (.slice (some a) len (c + 1)) s') (hlc : len ≤ c) (hpos : 0 < n) (hn : (Builtin.lenOf x').run P w = .ok n w) (hnl : new.length = n * ti.size) (hnew : ∀ w2 : World, w2.heap = w.heap → ∃ cs : Array Value, (Builtin.firstCells ti.size n x').run P w2 = .ok cs w2 ∧ VRL ρ new cs.toList)
    (hb : roomy (len + n) ti.bytes = true) : ResOK P ρ B H w (wud (Builtin.append_ at_ ty #[s', x'])) fresh (wtq own H elem ti.size (.slice (some a) len (c + 1)) a len c n new) := by
  unfold wtq
  cases hq : Nat.ble (len + n) c with
  | true =>
    rw [cond_true]
    have hroom : len + n ≤ c := Nat.le_of_ble_eq_true hq
    cases hst : wmd H ⟨a.block, a.off + len * ti.size, a.spot⟩ new with
    | none => exact wrdb
    | some H' =>
      intro _
      rcases Nat.eq_zero_or_pos c with hc0 | hc0
      · have hn0 : n = 0 := by omega
        have hl0 : len = 0 := by omega
        subst hc0; subst hn0; subst hl0
        exact absurd hpos (by omega)
      · obtain ⟨l, g1, g2⟩ := hs.slice_inv (.inr (by omega))
        subst g2
        simp only [capOf]
        obtain ⟨cs, c1, c2⟩ := hnew w rfl
        obtain ⟨r1, r2, r3⟩ := wxu (P := P) hR hst (l := l) g1 c2
        have hrun := wyt (ty := ty) hT (a := ⟨l.block, a.off, none⟩) (len := len) (cap := c) hn c1 hroom (by rw [addr_add]; exact r1)
        exact ⟨_, _, _, ρ, by rw [wjb, hrun]; rfl, rfl, .sliceExact g1, r2, r3⟩
  | false =>
    rw [cond_false]
    have hgrow : c < len + n := by
      rcases Nat.lt_or_ge c (len + n) with h | h
      · exact h
      · rw [Nat.ble_eq_true_of_le h] at hq; cases hq
    obtain ⟨cs, c1, c2⟩ := hnew w.drew rfl
    obtain ⟨a0, g0⟩ := wsdb hs
    split
    · rw [g0]
      have hrun := wzq (ty := ty) hT (base := some a0) (len := 0) (cap := c) (w := w) (old := #[]) hn (by simpa [Builtin.firstCells] using run_loadCells (P := P) w.drew a0 0 (fun _ => undef) (by intro j hj; omega)) c1 (by omega) hb
      rw [Nat.zero_add] at hrun
      simp only [Array.empty_append] at hrun
      exact wup hR hT.size hT.pos hnl (grownCap_ge _ _ _ _) c2 (by rw [wjb, hrun]; rfl)
    · rename_i len
      obtain ⟨l, g1, g2⟩ := hs.slice_inv (.inl (by omega))
      split
      · rename_i old hold
        obtain ⟨d1, d2⟩ := wyu (P := P) (wtlb hR) hs hold
        obtain ⟨olds, d3, d4⟩ := d2 w.drew rfl
        subst g2
        simp only [capOf]
        have hrun := wzq (ty := ty) hT (base := some ⟨l.block, a.off, none⟩) (len := len + 1) (cap := c) (w := w) hn (by simpa [capOf] using d3) c1 (by omega) hb
        refine wup hR hT.size hT.pos (by rw [List.length_append, d1, hnl]; simp [Nat.add_mul]) (grownCap_ge _ _ _ _) (arr := olds ++ cs) (by rw [Array.toList_append]; exact d4.append c2) (by rw [wjb, hrun]; rfl)
      · trivial
theorem whs {ρ : Ren} {x x' : Value} {n size : Nat} (hx : VR ρ x x') (h0 : lenA x = some n) (w : World) : (Builtin.firstCells size 0 x').run P w = .ok #[] w := by
  have hl : ∀ a : Addr, (loadCells a 0).run P w = .ok #[] w := fun a => by simpa using run_loadCells (P := P) w a 0 (fun _ => undef) (by intro j hj; omega)
  unfold lenA at h0
  split at h0
  · rename_i b m c
    cases b with
    | none => rw [hx.of_flat rfl]; simp [Builtin.firstCells]
    | some b => obtain ⟨_, _, rfl⟩ := hx.slice_len; simp [Builtin.firstCells, hl]
  · rw [hx.string_inv]; simp [Builtin.firstCells]
  · unfold lenAF at h0
    split at h0
    · rename_i q hq
      obtain ⟨a', _, rfl⟩ := hx.row_len hq
      cases a' <;> simp [Builtin.firstCells, hl]
    · cases h0
theorem wwtb {own : Bool} {ρ : Ren} {B : Nat} {H : AH} {w : World} (hR : Rel ρ B H w) {at_ : Array TypeId} {ty elem : TypeId} {ti : TypeInfo} {z : Value} (hT : AppTys P at_ elem ti z) {fresh : Nat} {s s' x x' : Value} (hs : VR ρ s s') (hx : VR ρ x x') :
    ResOK P ρ B H w (wud (Builtin.append_ at_ ty #[s', x'])) fresh (appA own H elem ti.size ti.bytes s x) := by
  unfold appA
  split
  · rename_i h0
    refine wmab hR hT hs (wxt hx h0 w) ?_
    have hl : ∀ a : Addr, (loadCells a 0).run P w = .ok #[] w := fun a => by simpa using run_loadCells (P := P) w a 0 (fun _ => undef) (by intro j hj; omega)
    exact whs hx h0 w
  · rename_i n hn0 h0
    split
    · rename_i new hnew
      obtain ⟨e1, e2⟩ := wyu (P := P) hR hx hnew
      have hn := wxt (P := P) hx h0 w
      unfold wnu
      split
      · cases hq : roomy n ti.bytes with
        | false => rw [cond_false]; trivial
        | true =>
          rw [cond_true]
          rw [hs.of_flat rfl]
          obtain ⟨cs, c1, c2⟩ := e2 w.drew rfl
          have hpos : 0 < n := by
            cases n with
            | zero => exact absurd rfl hn0
            | succ n => omega
          have hrun := wzq (ty := ty) hT (base := none) (len := 0) (cap := 0) (w := w) (old := #[]) hn (by simp [Builtin.firstCells]) c1 (by omega) (by rw [Nat.zero_add]; exact hq)
          rw [Nat.zero_add] at hrun
          simp only [Array.empty_append] at hrun
          exact wup hR hT.size hT.pos e1 (grownCap_ge _ _ _ _) c2 (by rw [wjb, hrun]; rfl)
      · rename_i a len
        cases hq : roomy (len + n) ti.bytes with
        | false => rw [cond_false]; trivial
        | true => rw [cond_true]; exact wkab hR hT hs hn e1 e2 hq
      · rename_i a len c
        cases hq : (roomy (len + n) ti.bytes && Nat.ble len c) with
        | false => rw [cond_false]; trivial
        | true =>
          rw [cond_true]
          simp only [Bool.and_eq_true, Nat.ble_eq] at hq
          have hpos : 0 < n := by
            cases n with
            | zero => exact absurd rfl hn0
            | succ n => omega
          exact wex hR hT hs hq.2 hpos hn e1 e2 hq.1
      · unfold wllb
        split
        · rename_i q hq0
          rw [whu hq0] at hs
          cases hq : roomy (q.2.1 + n) ti.bytes with
          | false => rw [cond_false]; trivial
          | true =>
            rw [cond_true]
            have hpos : 0 < n := by
              cases n with
              | zero => exact absurd rfl hn0
              | succ n => omega
            exact wlab hR hT hs hpos hn (by rw [wlob]; exact e1) (fun w2 h => by
              obtain ⟨cs, c1, c2⟩ := e2 w2 h
              exact ⟨cs, c1, wzu _ _ c2⟩) hq
        · trivial
    · trivial
  · trivial
theorem wnab {a : Act} {o : Oper} {c : Call} {x y : Operand} {b : Builtin} (ho : o.op = .call c) (hcal : c.callee = .builtin b) (hargs : c.args.toList = [x, y]) {f : Array TypeId → TypeId → Array Value → Sem Value}
    (hb : ∀ at_ t cs vs, builtin b at_ t cs vs = wud (f at_ t vs)) : execOp a.eval o = wud (f c.argTypes o.type #[a.eval x, a.eval y]) := by
  obtain ⟨callee, args, at_⟩ := c
  simp only at hcal hargs
  subst hcal
  have hargs' : args = #[x, y] := by apply Array.ext'; simpa using hargs
  subst hargs'
  simp only [execOp, ho, resolve]
  simp [invoke, hb]
theorem wmob {ρ : Ren} {B : Nat} {H : AH} {w : World} (hR : Rel ρ B H w) {at_ : Array TypeId} {ty st elem : TypeId} {ti : TypeInfo} (h1 : at_[0]? = some st) (h2 : tyU P st = some (.slice elem)) (h3 : wrc P elem = some ti) {fresh : Nat} {d d' x x' : Value} (hd : VR ρ d d') (hx : VR ρ x x') :
    ResOK P ρ B H w (wud (Builtin.copy_ at_ ty #[d', x'])) fresh (wynb H ti.size d x) := by
  unfold wynb
  split
  · rename_i a dl dc xl hxl
    have hn := wxt (P := P) hx hxl w
    split
    · rename_i hmin
      obtain ⟨a', c', g⟩ := hd.slice_len
      subst g
      intro _
      have hmin' : Nat.min xl dl = 0 := hmin
      have hfc := whs (P := P) (size := ti.size) hx hxl w
      refine ⟨.value (.int .i64 0), .int .i64 0, w, ρ, ?_, rfl, .flat rfl, hR, .refl ρ H w⟩
      rw [wjb]
      simp [Builtin.copy_, h1, wlb h2, wtc h3, hn, hmin', hfc, storeCells, goInt]
    · rename_i n hn0
      split
      · rename_i cs hcs
        obtain ⟨e1, e2⟩ := wyu (P := P) hR hx hcs
        cases hst : wmd H a cs with
        | none => exact wrdb
        | some H' =>
          intro _
          have hpos : 0 < dl := by
            rcases Nat.eq_zero_or_pos dl with h | h
            · exact absurd (show Nat.min xl dl = 0 by rw [h]; exact Nat.min_zero xl) hn0
            · exact h
          obtain ⟨l, g1, g2⟩ := hd.slice_inv (.inl hpos)
          subst g2
          obtain ⟨arr, c1, c2⟩ := e2 w rfl
          obtain ⟨r1, r2, r3⟩ := wxu (P := P) hR hst g1 c2
          refine ⟨.value (.int .i64 (Nat.min xl dl : Nat)), .int .i64 (Nat.min xl dl : Nat), _, ρ, ?_, rfl, .flat rfl, r2, r3⟩
          rw [wjb]
          simp [Builtin.copy_, h1, wlb h2, wtc h3, hn, c1, r1, goInt]
      · trivial
  · rename_i xl hxl
    intro _
    have hn := wxt (P := P) hx hxl w
    have hfc := whs (P := P) (size := ti.size) hx hxl w
    refine ⟨.value (.int .i64 0), .int .i64 0, w, ρ, ?_, rfl, .flat rfl, hR, .refl ρ H w⟩
    rw [wjb, hd.of_flat rfl]
    simp [Builtin.copy_, h1, wlb h2, wtc h3, hn, hfc, goInt]
  · trivial
theorem wpb {α β : Type} (x : Sem α) (f : α → Sem β) : wy P (x >>= f) = (wy P x).bind fun a => wy P (f a) := by
  show wy P (x.bind f) = _
  induction x with
  | pure a => rfl
  | program k ih => exact ih P
  | mark m k ih => exact ih
  | choose q k ih =>
    simp only [Sem.bind, wy]
    split
    · exact ih 0
    · rfl
  | _ => rfl
def Keys (es : List (Value × Value)) (ms : List MapEntry) : Prop := ms.length = es.length ∧ ∀ (i : Nat) (e : Value × Value) (m : MapEntry), es[i]? = some e → ms[i]? = some m → m.key = e.1
theorem Keys.cons {e : Value × Value} {es : List (Value × Value)} {ms : List MapEntry} (h : Keys (e :: es) ms) : ∃ m r, ms = m :: r ∧ m.key = e.1 ∧ Keys es r := by
  cases ms with
  | nil => have := h.1; simp at this
  | cons m r => exact ⟨m, r, rfl, h.2 0 e m rfl rfl, by have := h.1; simpa using this, fun i e' m' a b => h.2 (i + 1) e' m' (by simpa using a) (by simpa using b)⟩
def Found (j : Nat) (es : List (Value × Value)) (ms : List MapEntry) : Option (Nat × Value) → Option (Nat × Value) → Prop
  | none, none => True
  | some (i, v), some (i', v') => i' = i ∧ ∃ (k : Nat) (e : Value × Value) (m : MapEntry), i = j + k ∧ es[k]? = some e ∧ ms[k]? = some m ∧ v = e.2 ∧ v' = m.val
  | _, _ => False
theorem Found.step {j : Nat} {e : Value × Value} {m : MapEntry} {es : List (Value × Value)} {ms : List MapEntry} {r r' : Option (Nat × Value)} (h : Found (j + 1) es ms r r') : Found j (e :: es) (m :: ms) r r' := by
  cases r with
  | none => cases r' with
    | none => trivial
    | some p => exact h
  | some p => cases r' with
    | none => exact h
    | some p' =>
      obtain ⟨h1, k, x, y, h2, h3, h4, h5, h6⟩ := h
      exact ⟨h1, k + 1, x, y, by omega, by simpa using h3, by simpa using h4, h5, h6⟩
theorem now_rel (kind : TypeDesc) (k : Value) : ∀ (es : List (Value × Value)) (ms : List MapEntry) (j : Nat), Keys es ms →
    (Instr.findNow kind k (entriesOf es) j = none ∧ Instr.findNow kind k ms j = none) ∨
    ∃ r r', Instr.findNow kind k (entriesOf es) j = some r ∧ Instr.findNow kind k ms j = some r' ∧ Found j es ms r r' := by
  intro es
  induction es with
  | nil =>
    intro ms j h
    have : ms = [] := by have := h.1; simpa using this
    subst this
    exact .inr ⟨none, none, rfl, rfl, trivial⟩
  | cons e es ih =>
    intro ms j h
    obtain ⟨m, r, rfl, hk, hr⟩ := h.cons
    simp only [entriesOf, Instr.findNow, hk]
    cases hq : Instr.sameNow kind k e.1 with
    | none => exact .inl ⟨rfl, rfl⟩
    | some b =>
      cases b with
      | true => exact .inr ⟨_, _, rfl, rfl, rfl, 0, e, m, rfl, rfl, rfl, rfl, rfl⟩
      | false =>
        rcases ih r (j + 1) hr with ⟨h1, h2⟩ | ⟨x, y, h1, h2, h3⟩
        · exact .inl ⟨h1, h2⟩
        · exact .inr ⟨x, y, h1, h2, h3.step⟩
theorem wnob (kt : TypeId) (k : Value) : ∀ (es : List (Value × Value)) (ms : List MapEntry) (j : Nat), Keys es ms → ∀ r, wy P (Instr.findAsking kt k (entriesOf es) j) = some r →
    ∃ r', wy P (Instr.findAsking kt k ms j) = some r' ∧ Found j es ms r r' := by
  intro es
  induction es with
  | nil =>
    intro ms j h r hr
    have : ms = [] := by have := h.1; simpa using this
    subst this
    cases hr
    exact ⟨none, rfl, trivial⟩
  | cons e es ih =>
    intro ms j h r hr
    obtain ⟨m, rest, rfl, hk, hrest⟩ := h.cons
    simp only [entriesOf, Instr.findAsking, wpb, Option.bind_eq_some_iff] at hr ⊢
    obtain ⟨b, h1, h2⟩ := hr
    rw [hk]
    cases b with
    | true =>
      simp only [if_true] at h2
      cases h2
      exact ⟨_, ⟨true, h1, rfl⟩, rfl, 0, e, m, rfl, rfl, rfl, rfl, rfl⟩
    | false =>
      simp only [Bool.false_eq_true, if_false] at h2
      obtain ⟨r', h3, h4⟩ := ih rest (j + 1) hrest r h2
      exact ⟨r', ⟨false, h1, by simpa using h3⟩, h4.step⟩
theorem wzt {empty : Bool} {kt : TypeId} {k : Value} {es : List (Value × Value)} {ms : List MapEntry} {r : Option (Nat × Value)} (hk : Keys es ms) (h : wuq P empty kt k es = some r) (w : World) :
    ∃ r', (Instr.checkKey empty 10000 kt k).run P w = .ok () w ∧ (Instr.findKey kt k ms).run P w = .ok r' w ∧ Found 0 es ms r r' := by
  unfold wuq at h
  rw [wpb] at h
  obtain ⟨u, h1, h2⟩ := Option.bind_eq_some_iff.1 h
  have hck := wii _ _ h1 w
  unfold Instr.findKey at h2 ⊢
  rw [wpb] at h2
  obtain ⟨d, h3, h4⟩ := Option.bind_eq_some_iff.1 h2
  have hd := wii _ _ h3 w
  rcases now_rel d k es ms 0 hk with ⟨n1, n2⟩ | ⟨x, y, n1, n2, n3⟩
  · rw [n1] at h4
    obtain ⟨r', a1, a2⟩ := wnob (P := P) kt k es ms 0 hk r h4
    exact ⟨r', hck, by simp only [Sem.run_bind, hd, Result.andThen_ok, n2]; exact wii _ _ a1 w, a2⟩
  · rw [n1] at h4
    cases h4
    exact ⟨y, hck, by simp only [Sem.run_bind, hd, Result.andThen_ok, n2]; rfl, n3⟩
theorem wjo {w : World} {r : Nat} {ms : Array MapEntry} {clock : Nat} (h : w.heap[r]? = some (.map ms clock)) : (getObj r).run P w = .ok (.map ms clock) w := by simp [getObj, Sem.run, h]
theorem BRel.keys {ρ : Ren} {w : World} {es : List (Value × Value)} {ver : Nat} {l : Loc} (h : BRel ρ w (.map es) ver l) : ∃ ms clock, w.heap[l.block]? = some (.map ms clock) ∧ Keys es ms.toList ∧
    ∀ (i : Nat) (e : Value × Value) (m : MapEntry), es[i]? = some e → ms.toList[i]? = some m → m.key = e.1 ∧ flat e.1 = true ∧ VR ρ e.2 m.val := by
  obtain ⟨_, ms, clock, h1, h2, h3⟩ := h
  exact ⟨ms, clock, h1, ⟨by simpa using h2, fun i e m a b => (h3 i e m a (by simpa using b)).1⟩, fun i e m a b => h3 i e m a (by simpa using b)⟩
theorem wxtb {ρ : Ren} {v v' : Value} (h : VR ρ v v') (ok b : Bool) : VR ρ (okd ok v b) (if ok then .tuple #[v', .bool b] else v') := by
  cases ok
  · exact h
  · exact .tuple_mk (.cons h (.cons (.flat rfl) (.nil ρ)))
theorem woob {ρ : Ren} {B : Nat} {H : AH} {w : World} (hR : Rel ρ B H w) {e : Env} {a : Act} {fresh : Nat} {o : Oper} {t kt et : TypeId} {m k : Operand} {ok : Bool} {ti : TypeInfo} {z : Value} (ho : o.op = .lookup t m k ok) (ht : tyU P t = some (.map kt et)) (hti : wrc P et = some ti)
    (hz : whh ti = some z) (hE : ERel ρ e a) (hk : wch o.op = true) (hops : ∀ x ∈ o.op.operands.toList, wuc x = true) : ResOK P ρ B H w (execOp a.eval o) fresh (wcab P e H kt z ok (evl e m) (evl e k) o) := by
  have hm : wuc m = true := hops m (by rw [ho]; simp [Op.operands])
  have hkk : wuc k = true := hops k (by rw [ho]; simp [Op.operands])
  have hvm := wzb hE m hm
  have hvk := wzb hE k hkk
  obtain ⟨z1, z2⟩ := wuf hz
  unfold wcab
  split
  · rename_i r h0
    rw [h0] at hvm
    split
    · rename_i es hes
      cases hf : flat (evl e k) with
      | false => rw [cond_false]; trivial
      | true =>
        rw [cond_true]
        obtain ⟨l, g1, g2⟩ := hvm.map_inv
        obtain ⟨ms, clock, b1, b2, b3⟩ := (hR.blk _ _ _ _ g1 hes).keys
        have hkv : a.eval k = evl e k := hvk.of_flat hf
        have hem : ms.isEmpty = es.isEmpty := by
          have := b2.1
          cases es with
          | nil => simp at this; simp [this]
          | cons x y => simp at this; cases hms : ms.isEmpty with
            | false => rfl
            | true => simp at hms; rw [hms] at this; simp at this
        unfold wsp
        split
        · rename_i i v hfind
          obtain ⟨r', c1, c2, c3⟩ := wzt b2 hfind w
          cases r' with
          | none => exact c3.elim
          | some p =>
            obtain ⟨d1, kk, x, y, d2, d3, d4, d5, d6⟩ := c3
            obtain ⟨i', v'⟩ := p
            simp only at d1 d6
            refine .val (v' := if ok then .tuple #[v', .bool true] else v') ?_ ?_
            · simp only [execOp, ho, g2, hkv]
              simp [Instr.lookup, wlb ht, wjo b1, hem, c1, c2]
            · rw [d5, d6]
              exact wxtb (b3 kk x y d3 d4).2.2 ok true
        · rename_i hfind
          obtain ⟨r', c1, c2, c3⟩ := wzt b2 hfind w
          cases r' with
          | some p => exact c3.elim
          | none =>
            refine .val (v' := if ok then .tuple #[z, .bool false] else z) ?_ (wxtb (.flat z2) ok false)
            simp only [execOp, ho, g2, hkv]
            simp [Instr.lookup, wlb ht, wjo b1, hem, c1, c2, wvq hti z1]
        · trivial
    · trivial
  · exact wbd hk hE hops
theorem wey {w : World} {r : Nat} {ms : Array MapEntry} {clock : Nat} (h : w.heap[r]? = some (.map ms clock)) (o : Obj) : (setObj r o).run P w = .ok () { w with heap := w.heap.setIfInBounds r o } := by simp [setObj, Sem.run, h]
theorem wtdb {ρ : Ren} {B : Nat} {H : AH} {w : World} (hR : Rel ρ B H w) {r : Nat} {l : Loc} {es es' : List (Value × Value)} {ms' : Array MapEntry} {clock' : Nat} (hl : ρ r 0 = some l) (hes : H.get r = some (.map es)) (hid : whc r = true)
    (hlen : ms'.size = es'.length) (hrel : ∀ (i : Nat) (e : Value × Value) (m : MapEntry), es'[i]? = some e → ms'[i]? = some m → m.key = e.1 ∧ flat e.1 = true ∧ VR ρ e.2 m.val) :
    Rel ρ B (H.set r (.map es')) { w with heap := w.heap.setIfInBounds l.block (.map ms' clock') } ∧ Ext ρ H w ρ (H.set r (.map es')) { w with heap := w.heap.setIfInBounds l.block (.map ms' clock') } := by
  have hlt := (hR.bnd _ _ _ hl).2
  refine Rel.write hR (.refl ρ) (fun _ _ _ h => .inl h) hes hid (by simp) ?_ ?_ (fun c hc => by cases hc) (fun _ _ _ h => .inl h) ?_ (fun _ _ h => h) (fun _ _ _ _ _ _ _ _ _ h => h)
  · intro b hb himg
    have : ¬ l.block = b := himg _ _ hl
    simp [this]
  · intro ver l' hl'
    have hv : ver = 0 := (hR.blk _ _ _ _ hl' hes).1
    subst hv
    have : l' = l := by rw [hl] at hl'; exact (Option.some.inj hl').symm
    subst this
    exact ⟨rfl, ms', clock', by simp [hlt], hlen, hrel⟩
  · intro ver l' i v hl' hv _
    exact (hR.fz.sep _ _ _ _ _ _ hl' hv hes).elim
theorem wudb {ρ : Ren} {B : Nat} {H : AH} {w : World} (hR : Rel ρ B H w) {fresh : Nat} {t kt et : TypeId} {m m' k k' x x' : Value} (ht : tyU P t = some (.map kt et)) (hm : VR ρ m m') (hk : VR ρ k k') (hx : VR ρ x x') {s : Sem Next}
    (hs : s = do Instr.mapUpdate t m' k' x'; pure .skip) : ResOK P ρ B H w s fresh (updA P H kt m k x) := by
  subst hs
  unfold updA
  split
  · rename_i r
    split
    · rename_i es hes
      cases hq : (flat k && whc r) with
      | false => rw [cond_false]; trivial
      | true =>
        rw [cond_true]
        simp only [Bool.and_eq_true] at hq
        obtain ⟨hf, hid⟩ := hq
        obtain ⟨l, g1, g2⟩ := hm.map_inv
        subst g2
        obtain ⟨ms, clock, b1, b2, b3⟩ := (hR.blk _ _ _ _ g1 hes).keys
        have hkv : k' = k := hk.of_flat hf
        subst hkv
        have hlen : ms.size = es.length := by have := b2.1; simpa using this
        unfold wzx
        split
        · rename_i i v hfind
          split
          · rename_i ee hee
            cases hsb : Instr.sameBits 10000 ee.1 k' with
            | false => rw [cond_false]; trivial
            | true =>
              rw [cond_true]
              intro _
              obtain ⟨r', c1, c2, c3⟩ := wzt b2 hfind w
              cases r' with
              | none => exact c3.elim
              | some p =>
                obtain ⟨i', v'⟩ := p
                obtain ⟨d1, kk, e0, m0, d2, d3, d4, d5, d6⟩ := c3
                subst d1
                have hkk : kk = i' := by omega
                subst hkk
                have hm0 : ms[kk]? = some m0 := by simpa using d4
                have hkey : m0.key = ee.1 := by rw [hee] at d3; cases d3; exact (b3 kk ee m0 hee d4).1
                obtain ⟨q1, q2⟩ := wtdb (clock' := clock) (es' := es.set kk (k', x)) (ms' := ms.modify kk fun e => { e with key := k', val := x' }) hR g1 hes hid (by simp [hlen]) (by
                  intro i e m h1 h2
                  rw [List.getElem?_set] at h1
                  rw [Array.getElem?_modify] at h2
                  by_cases hi : kk = i
                  · subst hi
                    rw [if_pos rfl] at h2
                    rw [hm0] at h2
                    simp only [Option.map_some, Option.some.injEq] at h2
                    rw [if_pos rfl] at h1
                    split at h1
                    · cases h1; subst h2; exact ⟨rfl, hf, hx⟩
                    · cases h1
                  · rw [if_neg hi] at h1 h2
                    exact b3 i e m h1 (by simpa using h2))
                refine ⟨.skip, undef, _, ρ, ?_, rfl, .flat wji, q1, q2⟩
                have hkeep : (Instr.keyThatStays (((ms[kk]?).map (·.key)).getD k') k').run P w = .ok k' w := by
                  rw [hm0]
                  show (Instr.keyThatStays m0.key k').run P w = _
                  unfold Instr.keyThatStays
                  rw [hkey, if_pos hsb]
                  rfl
                simp only [Instr.mapUpdate, Sem.run_bind, wlb ht, Result.andThen_ok, wjo b1, c1, c2, hkeep, wey b1]
                rfl
          · trivial
        · rename_i hfind
          intro _
          obtain ⟨r', c1, c2, c3⟩ := wzt b2 hfind w
          cases r' with
          | some p => exact c3.elim
          | none =>
            obtain ⟨q1, q2⟩ := wtdb (clock' := clock + 1) (es' := es ++ [(k', x)]) (ms' := ms.push { key := k', val := x', born := clock }) hR g1 hes hid (by simp [hlen]) (by
              intro i e m h1 h2
              rw [Array.getElem?_push] at h2
              by_cases hi : i = ms.size
              · rw [if_pos hi] at h2
                cases h2
                rw [hi, hlen, List.getElem?_append_right (Nat.le_refl _)] at h1
                simp at h1
                subst h1
                exact ⟨rfl, hf, hx⟩
              · rw [if_neg hi] at h2
                have hlt : i < es.length := by
                  rcases Nat.lt_or_ge i ms.size with h | h
                  · omega
                  · rw [Array.getElem?_eq_none h] at h2; cases h2
                rw [List.getElem?_append_left hlt] at h1
                exact b3 i e m h1 (by simpa using h2))
            refine ⟨.skip, undef, _, ρ, ?_, rfl, .flat wji, q1, q2⟩
            simp only [Instr.mapUpdate, Sem.run_bind, wlb ht, Result.andThen_ok, wjo b1, c1, c2, wey b1]
            rfl
        · trivial
    · trivial
  · trivial
end
end Go.Den
namespace Go.Den
noncomputable section
variable {P : Program}
theorem war {w : World} {k : Nat} : ∀ (l : List Value) (off : Nat) (acc : ByteArray), (∀ (j : Nat) (v : Value), l[j]? = some v → w.cell? ⟨k, off + j, none⟩ = some v) → (∀ v ∈ l, isU8 v = true) →
    (loadBytes ⟨k, off, none⟩ acc l.length).run P w = .ok ⟨acc.data ++ (l.map toU8).toArray⟩ w := by
  intro l
  induction l with
  | nil => intro off acc _ _; simp [loadBytes]
  | cons v l ih =>
    intro off acc h hu
    have h0 := h 0 v (by simp)
    rw [Nat.add_zero] at h0
    have hv := hu v (by simp)
    unfold isU8 at hv
    split at hv
    · rename_i n
      have hstep := ih (off + 1) (acc.push (Int.toNat (.ofNat n)).toUInt8) (fun j x hx => by
        have := h (j + 1) x (by simpa using hx)
        rwa [show off + 1 + j = off + (j + 1) by omega]) fun x hx => hu x (by simp [hx])
      simp only [List.length_cons, loadBytes]
      rw [Sem.run_bind]
      have hl : (load ⟨k, off, none⟩).run P w = .ok (.int .u8 (.ofNat n)) w := by simp [load, Sem.run, h0]
      rw [hl, Result.andThen_ok]
      simp only
      rw [addr_add, hstep]
      congr 1
      simp only [List.map_cons, ByteArray.push, toU8]
      congr 1
      simp
    · cases hv
def iced (off n : Nat) : Obj → Obj
  | .cells c elem (lo, hi) => .cells c elem (if lo == hi then (off, off + n) else (min lo off, max hi (off + n)))
  | o => o
theorem wis (w : World) (k off n r : Nat) (hn : n ≠ 0) : (w.freeze ⟨k, off, none⟩ n).heap[r]? = if k = r then (w.heap[r]?).map (iced off n) else w.heap[r]? := by
  unfold World.freeze
  rw [if_neg hn]
  simp only [Array.getElem?_modify]
  split
  · rename_i h
    cases w.heap[r]? with
    | none => rfl
    | some o => cases o <;> rfl
  · rfl
theorem wvdb (w : World) (k off n r : Nat) (hn : n ≠ 0) : (w.freeze ⟨k, off, none⟩ n).shape? r = w.shape? r := by
  unfold World.shape?
  rw [wis w k off n r hn]
  by_cases hkr : k = r
  · rw [if_pos hkr]
    cases w.heap[r]? with
    | none => rfl
    | some o => cases o <;> rfl
  · rw [if_neg hkr]
theorem woab (w : World) (k off n : Nat) (a : Addr) (hn : n ≠ 0) : (w.freeze ⟨k, off, none⟩ n).cell? a = w.cell? a := by
  unfold World.cell?
  rw [wis w k off n _ hn]
  by_cases hkr : k = a.block
  · rw [if_pos hkr]
    cases w.heap[a.block]? with
    | none => rfl
    | some o => cases o <;> rfl
  · rw [if_neg hkr]
theorem wulb (w : World) (k off n : Nat) : (w.freeze ⟨k, off, none⟩ n).heap.size = w.heap.size := by
  unfold World.freeze
  split
  · rfl
  · simp
theorem ice_rel {ρ : Ren} {B : Nat} {H : AH} {w : World} (hR : Rel ρ B H w) {id ver : Nat} {l : Loc} {b : CBlk} (hl : ρ id ver = some l) (hb : H.get id = some (.cells b)) (hm : b.mark = false) (hid : whc id = true) (off n : Nat) (hn : n ≠ 0) :
    Rel ρ B (H.set id (.cells { b with frz := max b.frz (off + n) })) (w.freeze ⟨l.block, off, none⟩ n) ∧ Ext ρ H w ρ (H.set id (.cells { b with frz := max b.frz (off + n) })) (w.freeze ⟨l.block, off, none⟩ n) := by
  refine Rel.write hR (.refl ρ) (fun _ _ _ h => .inl h) hb hid (by rw [wulb]; exact Nat.le_refl _) ?_ ?_ ?_ (fun _ _ _ h => .inl h) (fun ver' l' i v h1 h2 _ => by rw [woab _ _ _ _ _ hn]; exact hR.fz.cell _ _ _ h2) (fun _ _ h => Nat.lt_of_lt_of_le h (Nat.le_max_left _ _)) (fun _ _ _ _ _ _ _ _ _ h => h) ?_
  · intro c _ himg
    rw [wis w _ off n c hn, if_neg (himg _ _ hl)]
  · intro ver' l' hl'
    obtain ⟨h1, h2⟩ := hR.blk _ _ _ _ hl' hb
    refine ⟨h1, fun hv => ?_⟩
    have hc := h2 hv
    obtain ⟨N, s1, s2, s3, s4⟩ := hc.shape
    have hhi := hc.hi hm
    have hhi' : hiOf (w.freeze ⟨l.block, off, none⟩ n) l'.block ≤ max b.frz (off + n) := by
      unfold hiOf at hhi ⊢
      rw [wis w _ off n _ hn]
      by_cases hkr : l.block = l'.block
      · rw [if_pos hkr]
        cases hq : w.heap[l'.block]? with
        | none => simp
        | some o =>
          rw [hq] at hhi
          cases o with
          | cells c el fz =>
            obtain ⟨lo, hi⟩ := fz
            simp only [Option.map_some, iced]
            simp only at hhi
            split <;> simp only <;> omega
          | _ => simp [iced]
      · rw [if_neg hkr]; omega
    refine ⟨⟨N, by rw [wvdb _ _ _ _ _ hn]; exact s1, s2, s3, fun i hi _ => ?_⟩, fun i v hi hiv => ?_, hc.esz, fun _ => hhi'⟩
    · unfold hiOf at hhi'
      unfold World.frozen?
      simp only at hi ⊢
      cases hq : (w.freeze ⟨l.block, off, none⟩ n).heap[l'.block]? with
      | none => rfl
      | some o =>
        rw [hq] at hhi'
        cases o with
        | cells c el fz =>
          obtain ⟨lo, hh⟩ := fz
          simp only at hhi' ⊢
          have : ¬ i < hh := by omega
          simp [this]
        | _ => rfl
    · obtain ⟨v', g1, g2⟩ := hc.vals i v hi hiv
      exact ⟨v', by rw [woab _ _ _ _ _ hn]; exact g1, g2⟩
  · intro c hc
    cases hc
    have := hR.wf _ _ hb
    exact ⟨this.lens, this.wver, this.pf⟩
  · unfold World.freeze
    split <;> exact ⟨rfl, rfl⟩
theorem wfy {t u : TypeId} (h : wds P t u = true) {N off n : Nat} (hle : off + n ≤ N) : liesAt P P.depth t (N / P.cellsOf t) off u n = true := by
  unfold wds at h
  simp only [Bool.and_eq_true, Nat.beq_eq, Nat.blt_eq] at h
  obtain ⟨h1, h2, h3⟩ := h
  obtain ⟨d, hd⟩ : ∃ d, P.depth = d + 1 := ⟨P.depth - 1, by omega⟩
  have key : rowAt P (sameLayout P P.depth · u) P.depth t (N / P.cellsOf t) off n = true := by
    have : rowAt P (sameLayout P P.depth · u) (d + 1) t (N / P.cellsOf t) off n = true := by
      unfold rowAt
      simp only [h1, h3, Nat.div_one, Nat.mod_one]
      simp [hle]
    rwa [← hd] at this
  have : liesAt P (d + 1) t (N / P.cellsOf t) off u n = true := by
    unfold liesAt
    simp only [key, Bool.true_or]
  rw [← hd] at this
  exact this
theorem ice_tok {ρ : Ren} {B : Nat} {H : AH} {w : World} (hR : Rel ρ B H w) {t m : Nat} {l : Loc} {elem : TypeId} {esz : Nat} (hl : ρ t m = some l) (hb : H.get t = some (.tok m elem esz)) {n : Nat} (hn : n ≠ 0) (hle : n ≤ m * l.esz) :
    Rel ρ B H (w.freeze ⟨l.block, 0, none⟩ n) ∧ Ext ρ H w ρ H (w.freeze ⟨l.block, 0, none⟩ n) := by
  have hsize := wulb w l.block 0 n
  have hother : ∀ r, r ≠ l.block → (w.freeze ⟨l.block, 0, none⟩ n).heap[r]? = w.heap[r]? := fun r hr => by rw [wis w _ 0 n _ hn, if_neg (fun e => hr e.symm)]
  refine ⟨⟨?_, hR.wf, hR.low, hR.sep, fun id ver x h => by rw [hsize]; exact hR.bnd id ver x h, by rw [hsize]; exact hR.base, ⟨fun b i v h => by rw [woab _ _ _ _ _ hn]; exact hR.fz.cell b i v h, hR.fz.sep⟩⟩, ?_⟩
  · intro id ver x b hx hbx
    by_cases he : x.block = l.block
    · have hid := hR.sep _ _ _ _ _ _ hx hl he
      subst hid
      rw [hb] at hbx
      cases hbx
      obtain ⟨h1, h2, h3⟩ := hR.blk _ _ _ _ hx hb
      refine ⟨h1, h2, fun hv => ?_⟩
      subst hv
      rw [hl] at hx
      cases hx
      have hk := h3 rfl
      have hhi : hiOf (w.freeze ⟨l.block, 0, none⟩ n) l.block ≤ ver * l.esz := by
        have h0 := hk.hi
        unfold hiOf at h0 ⊢
        rw [wis w _ 0 n _ hn, if_pos rfl]
        cases hq : w.heap[l.block]? with
        | none => exact Nat.zero_le _
        | some o =>
          rw [hq] at h0
          cases o with
          | cells c el fz =>
            obtain ⟨lo, hi⟩ := fz
            simp only [Option.map_some, iced]
            simp only at h0
            split <;> simp only <;> omega
          | _ => exact Nat.zero_le _
      refine ⟨by rw [wvdb _ _ _ _ _ hn]; exact hk.shape, hk.le, fun i hi _ => ?_, hhi⟩
      unfold hiOf at hhi
      unfold World.frozen?
      simp only at hi ⊢
      cases hq : (w.freeze ⟨l.block, 0, none⟩ n).heap[l.block]? with
      | none => rfl
      | some o =>
        rw [hq] at hhi
        cases o with
        | cells c el fz =>
          obtain ⟨lo, hh⟩ := fz
          simp only at hhi ⊢
          have : ¬ i < hh := by omega
          simp [this]
        | _ => rfl
    · exact (hR.blk _ _ _ _ hx hbx).keep (.refl ρ) (hother _ he)
  · refine ⟨.refl ρ, by rw [hsize]; exact Nat.le_refl _, fun b _ himg => hother b fun e => himg t m l (by rw [hb]; rfl) hl e.symm, fun id ver x h h' => (by rw [h] at h'; cases h'), fun id ver x h h' => (by rw [h] at h'; cases h'), Nat.le_refl _, fun _ h => h, fun _ h => .inl h, ?_, fun _ _ _ h => .inl h⟩
    unfold World.freeze
    split <;> exact ⟨rfl, rfl⟩
theorem wytb {at_ : Array TypeId} {ty pt : TypeId} (h1 : at_[0]? = some pt) (p : Option Addr) (k : IntKind) (w : World) : (Builtin.unsafeString_ at_ ty #[.pointer p, .int k 0]).run P w = .ok (.string .empty) w := by
  conv in (Builtin.unsafeString_ _ _ _) => whnf
  have c2 : ¬ (0 : Int) > IntKind.i64.max := by decide
  cases p <;> simp [h1, c2]
theorem wvlb {at_ : Array TypeId} {ty pt u : TypeId} (h1 : at_[0]? = some pt) {a : Addr} {k : IntKind} {n : Nat} {s : ByteArray} {w : World} (helem : (elemOf pt).run P w = .ok u w) (hn : 0 < n) (hmax : n ≤ 9223372036854775807)
    (hvar : (variablesAt a u n).run P w = .ok true w) (hload : (loadBytes a .empty n).run P w = .ok s w) : (Builtin.unsafeString_ at_ ty #[.pointer (some a), .int k (n : Int)]).run P w = .ok (.string s) (w.freeze a n) := by
  conv in (Builtin.unsafeString_ _ _ _) => whnf
  have c1 : ¬ (n : Int) < 0 := by omega
  have c2 : ¬ (n : Int) > IntKind.i64.max := by
    have : IntKind.i64.max = 9223372036854775807 := by decide
    rw [this]; omega
  have c3 : ¬ (n : Int) = 0 := by omega
  have c4 : ((n : Int)).toNat = n := by omega
  simp only [h1, c1, c2, c3, if_false, c4, Sem.run_bind, Sem.run_pure, Result.andThen_ok, helem, hvar, if_true, hload]
  simp [freeze, Sem.run]
theorem wpob {ρ : Ren} {B : Nat} {H : AH} {w : World} (hR : Rel ρ B H w) {at_ : Array TypeId} {ty pt u : TypeId} (h1 : at_[0]? = some pt) (h2 : tyU P pt = some (.pointer u)) {fresh : Nat} {x x' y y' : Value} (hx : VR ρ x x') (hy : VR ρ y y') :
    ResOK P ρ B H w (wud (Builtin.unsafeString_ at_ ty #[x', y'])) fresh (wchb P H u x (wdj y)) := by
  have helem : (elemOf pt).run P w = .ok u w := by simp [elemOf, Sem.run_bind, wlb h2]
  cases hn : wdj y with
  | none => trivial
  | some n =>
    obtain ⟨k, e1⟩ := wki hn
    rw [e1] at hy
    have e2 := hy.int_inv
    subst e2
    cases n with
    | zero =>
      simp only [wchb]
      split
      · rename_i p
        have hp : ∃ p', x' = .pointer p' := by
          cases p with
          | none => exact ⟨none, hx.of_flat rfl⟩
          | some a => obtain ⟨l, _, g2⟩ := hx.ptr_inv; exact ⟨_, g2⟩
        obtain ⟨p', rfl⟩ := hp
        refine .val (v' := .string ⟨#[]⟩) ?_ (.flat rfl)
        rw [wjb]
        have := wytb (P := P) (ty := ty) h1 p' k w
        rw [show ((0 : Nat) : Int) = 0 from rfl, this]
        rfl
      · trivial
    | succ n =>
      simp only [wchb]
      split
      · rename_i a
        split
        · rename_i b hb
          cases hq : (wds P b.elem u && Nat.ble (n + 1) 9223372036854775807) with
          | false => rw [cond_false]; trivial
          | true =>
            rw [cond_true]
            simp only [Bool.and_eq_true, Nat.ble_eq] at hq
            obtain ⟨q1, q2⟩ := hq
            unfold wfdb
            cases hq2 : ((slotsOf b.cells a.off (n + 1)).all isU8 && (!b.mark && whc a.block)) with
            | false => rw [cond_false]; trivial
            | true =>
              rw [cond_true, wtd]
              simp only [Bool.and_eq_true, Bool.not_eq_true'] at hq2
              obtain ⟨q3, q4, q5⟩ := hq2
              obtain ⟨l, g1, g2⟩ := hx.ptr_inv
              subst g2
              obtain ⟨r1, r2, r3, r4⟩ := wve hb
              have hC := wpu hR hb g1
              obtain ⟨N, s1, s2, s3, s4⟩ := hC.shape
              have hlen := wqu hR hb
              have hN : a.off + (n + 1) ≤ N := by
                by_cases hz : b.lens = []
                · have := s2 hz; omega
                · have := (s3 hz).2; omega
              have hall := weg q3
              have hsl : (slotsOf b.cells a.off (n + 1)).length = n + 1 := by simp [slotsOf]; omega
              have hcells : ∀ (j : Nat) (v : Value), (slotsOf b.cells a.off (n + 1))[j]? = some v → w.cell? ⟨l.block, a.off + j, none⟩ = some v := by
                intro j v hv
                have hj : j < n + 1 := by
                  rcases Nat.lt_or_ge j (n + 1) with h | h
                  · exact h
                  · rw [List.getElem?_eq_none (by omega)] at hv; cases hv
                obtain ⟨z, z', t1, t2, t3⟩ := wes hR hb g1 j hj
                have hz : z = v := by
                  simp only [slotsOf, List.getElem?_take, List.getElem?_drop, if_pos hj] at hv
                  rw [t1] at hv
                  exact Option.some.inj hv
                subst hz
                have hu := hall z (List.mem_of_getElem? hv)
                have hf : flat z = true := by
                  unfold isU8 at hu
                  split at hu
                  · rfl
                  · cases hu
                rw [t2, t3.of_flat hf]
              have hload := war (P := P) (slotsOf b.cells a.off (n + 1)) a.off .empty hcells hall
              rw [hsl] at hload
              intro _
              obtain ⟨i1, i2⟩ := ice_rel hR g1 r1 q4 q5 a.off (n + 1) (by omega)
              refine ⟨.value (.string ⟨((slotsOf b.cells a.off (n + 1)).map toU8).toArray⟩), _, w.freeze ⟨l.block, a.off, none⟩ (n + 1), ρ, ?_, rfl, .flat rfl, i1, i2⟩
              have hvar : (variablesAt ⟨l.block, a.off, none⟩ u (n + 1)).run P w = .ok true w := by
                have := wfy q1 hN
                simp [variablesAt, program, shape, Sem.run, s1, this]
              have hrun : (Builtin.unsafeString_ at_ ty #[.pointer (some ⟨l.block, a.off, none⟩), .int k ((n + 1 : Nat) : Int)]).run P w = .ok (.string ⟨((slotsOf b.cells a.off (n + 1)).map toU8).toArray⟩) (w.freeze ⟨l.block, a.off, none⟩ (n + 1)) := by
                have hemp : (⟨ByteArray.empty.data ++ ((slotsOf b.cells a.off (n + 1)).map toU8).toArray⟩ : ByteArray) = ⟨((slotsOf b.cells a.off (n + 1)).map toU8).toArray⟩ := by
                  congr 1
                  simp [ByteArray.empty, ByteArray.emptyWithCapacity]
                  try rfl
                rw [hemp] at hload
                exact wvlb h1 helem (by omega) q2 hvar hload
              rw [wjb, hrun]
              rfl
        · trivial
      · unfold wznb
        cases hq : asOP x with
        | none => trivial
        | some p =>
          obtain ⟨t, m, cs⟩ := p
          have h0 : x = OP t m cs := wtsb hq
          subst h0
          obtain ⟨l, f, g1, g2, g3, g4, g5⟩ := hx.optr_inv
          subst g3
          show ResOK P ρ B H w _ fresh (wgtb P H u (n + 1) m cs (H.get t))
          unfold wgtb
          split
          · rename_i kk elem esz hb
            cases hc : (Nat.beq kk m && (Nat.beq esz 1 && (Nat.ble (n + 1) m && (wds P elem u && (Nat.ble (n + 1) 9223372036854775807 && (cs.take (n + 1)).all isU8))))) with
            | false => rw [cond_false]; trivial
            | true =>
              rw [cond_true]
              simp only [Bool.and_eq_true, Nat.beq_eq, Nat.ble_eq] at hc
              obtain ⟨c1, c2, c3, c4, c5, c6⟩ := hc
              subst c1 c2
              obtain ⟨b1, b2, b3⟩ := hR.blk _ _ _ _ g1 hb
              have hk := b3 rfl
              rw [b2, Nat.mul_one] at g2
              have hle := hk.le
              have hall := weg c6
              have hsl : (cs.take (n + 1)).length = n + 1 := by rw [List.length_take]; omega
              have hcells : ∀ (j : Nat) (v : Value), (cs.take (n + 1))[j]? = some v → w.cell? ⟨l.block, 0 + j, none⟩ = some v := by
                intro j v hv
                have hj : j < n + 1 := by
                  rcases Nat.lt_or_ge j (n + 1) with h | h
                  · exact h
                  · rw [List.getElem?_eq_none (by omega)] at hv; cases hv
                rw [List.getElem?_take, if_pos hj] at hv
                have t1 := hR.fz.cell _ _ _ (g4 j (by omega))
                have t2 := (g5 j v hv)
                have hu := hall v (List.mem_of_getElem? (show (cs.take (n + 1))[j]? = some v by rw [List.getElem?_take, if_pos hj]; exact hv))
                rw [t2.of_flat (wthb hu)] at t1
                rw [Nat.zero_add]
                exact t1
              have hload := war (P := P) (cs.take (n + 1)) 0 .empty hcells hall
              rw [hsl] at hload
              intro _
              obtain ⟨i1, i2⟩ := ice_tok hR g1 hb (n := n + 1) (by omega) (by rw [b2]; omega)
              refine ⟨.value (.string ⟨((cs.take (n + 1)).map toU8).toArray⟩), _, w.freeze ⟨l.block, 0, none⟩ (n + 1), ρ, ?_, rfl, .flat rfl, i1, i2⟩
              have hvar : (variablesAt ⟨l.block, 0, none⟩ u (n + 1)).run P w = .ok true w := by
                have := wfy (off := 0) (n := n + 1) (N := l.cap * l.esz) c4 (by rw [b2]; omega)
                simp [variablesAt, program, shape, Sem.run, hk.shape, this]
              have hrun : (Builtin.unsafeString_ at_ ty #[.pointer (some ⟨l.block, 0, none⟩), .int k ((n + 1 : Nat) : Int)]).run P w = .ok (.string ⟨((cs.take (n + 1)).map toU8).toArray⟩) (w.freeze ⟨l.block, 0, none⟩ (n + 1)) := by
                have hemp : (⟨ByteArray.empty.data ++ ((cs.take (n + 1)).map toU8).toArray⟩ : ByteArray) = ⟨((cs.take (n + 1)).map toU8).toArray⟩ := by
                  congr 1
                  simp [ByteArray.empty, ByteArray.emptyWithCapacity]
                  try rfl
                rw [hemp] at hload
                exact wvlb h1 helem (by omega) c5 hvar hload
              rw [wjb, hrun]
              rfl
          · trivial
end
end Go.Den
namespace Go.Den
noncomputable section
variable {P : Program}
theorem same_eq (x : Value) : Extern.AbiNoEscape.same #[x] = pure x := rfl
theorem wztb {c : Call} {f : FuncId} {o : Oper} {a : Act} {x : Operand} (ho : o.op = .call c) (hcal : c.callee = .value (.func f)) (hs : wvsb P f = true) (hx : c.args.toList = [x]) (w : World) : (execOp a.eval o).run P w = .ok (.value (a.eval x)) w := by
  unfold wvsb at hs
  split at hs
  · rename_i fn hfn
    simp only [Bool.and_eq_true, beq_iff_eq] at hs
    obtain ⟨h1, h2, h3⟩ := hs
    have hb : fn.body = none := by simpa using h1
    have e1 : Extern.findNext fn = none := by
      unfold Extern.findNext
      simp only [h2, h3]
      rfl
    have e2 : Extern.find fn = some Extern.AbiNoEscape.same := by
      unfold Extern.find
      simp only [h2, h3]
      rfl
    have hargs : c.args = #[x] := by
      cases hc : c.args with
      | mk l => rw [hc] at hx; simp at hx; rw [hx]
    have hn : ¬ fn.name = "runtime.NumGoroutine" := by rw [h2]; decide
    generalize hv : a.eval x = v
    simp only [execOp, ho, resolve, hcal, Act.eval, Deferred.ofValue, hargs]
    simp [invoke, callFunc, hfn, hb, h2, e1, e2, mark, Sem.run, same_eq, hv]
  · cases hs
theorem wat : ∀ n, (wrp n).length = n := by
  intro n
  induction n with
  | zero => rfl
  | succ n ih => show (JK :: wrp n).length = n + 1; simp [ih]
theorem waub : ∀ (n i : Nat) (v : Value), (wrp n)[i]? = some v → v = JK := by
  intro n
  induction n with
  | zero => intro i v h; change ([] : List Value)[i]? = some v at h; simp at h
  | succ n ih =>
    intro i v h
    have e : wrp (n + 1) = JK :: wrp n := rfl
    rw [e] at h
    cases i with
    | zero => simp at h; exact h.symm
    | succ i => simp at h; exact ih i v h
theorem wzhb {f : FuncId} {e : TypeId} (h : wjlb P f = some e) : ∃ (fn : Func) (t : TypeId) (ti : TypeInfo), P.funcs[f]? = some fn ∧ fn.body = none ∧ fn.name = "internal/bytealg.MakeNoZero" ∧ fn.origin = "" ∧ fn.resultTypes = #[t] ∧ tyU P t = some (.slice e) ∧ wrc P e = some ti ∧ ti.size = 1 := by
  unfold wjlb at h
  split at h
  · rename_i fn hfn
    cases hq : (fn.body.isNone && (fn.name == "internal/bytealg.MakeNoZero" && fn.origin == "")) with
    | false => rw [hq, cond_false] at h; cases h
    | true =>
      rw [hq, cond_true] at h
      simp only [Bool.and_eq_true, beq_iff_eq] at hq
      obtain ⟨h1, h2, h3⟩ := hq
      split at h
      · rename_i t ht
        split at h
        · rename_i e2 he2
          split at h
          · rename_i ti hti
            cases hz : Nat.beq ti.size 1 with
            | false => rw [hz, cond_false] at h; cases h
            | true =>
              rw [hz, cond_true] at h
              cases h
              exact ⟨fn, t, ti, hfn, by simpa using h1, h2, h3, ht, he2, hti, Nat.eq_of_beq_eq_true hz⟩
          · cases h
        · cases h
      · cases h
  · cases h
theorem call_mk {c : Call} {f : FuncId} {o : Oper} {a : Act} {x : Operand} {fn : Func} {t : TypeId} (ho : o.op = .call c) (hcal : c.callee = .value (.func f)) (hfn : P.funcs[f]? = some fn) (hb : fn.body = none) (h2 : fn.name = "internal/bytealg.MakeNoZero") (h3 : fn.origin = "") (ht : fn.resultTypes = #[t]) (hx : c.args.toList = [x])
    {w w' : World} {v : Value} (hrun : (Extern.BytealgMakeNoZero.makeNoZero fn.params #[t] #[a.eval x]).run P w = .ok v w') : (execOp a.eval o).run P w = .ok (.value v) w' := by
  have e1 : Extern.findNext fn = none := by
    unfold Extern.findNext
    simp only [h2, h3]
    rfl
  have e2 : Extern.find fn = some (Extern.BytealgMakeNoZero.makeNoZero fn.params fn.resultTypes) := by
    unfold Extern.find
    simp only [h2, h3]
    rfl
  have hargs : c.args = #[x] := by
    cases hc : c.args with
    | mk l => rw [hc] at hx; simp at hx; rw [hx]
  generalize hv : a.eval x = u at hrun
  rw [← ht] at hrun
  simp only [execOp, ho, resolve, hcal, Act.eval, Deferred.ofValue, hargs]
  simp [invoke, callFunc, hfn, hb, h2, e1, e2, mark, hv]
  have hmark : Sem.run P (Sem.mark (Mark.extern f) (Sem.pure ())) w = .ok () w := rfl
  rw [hmark]
  simp [hrun]
theorem wqob {ρ : Ren} {B : Nat} {H : AH} {w : World} (hR : Rel ρ B H w) {e : Env} {a : Act} {fresh : Nat} {o : Oper} {c : Call} {f : FuncId} {x : Operand} {elem : TypeId} (ho : o.op = .call c) (hcal : c.callee = .value (.func f)) (he : wjlb P f = some elem) (hx : c.args.toList = [x])
    (hE : ERel ρ e a) (hok : wuc x = true) : ResOK P ρ B H w (execOp a.eval o) fresh (wftb H elem (evl e x)) := by
  obtain ⟨fn, t, ti, f1, f2, f3, f4, f5, f6, f7, f8⟩ := wzhb he
  have hv := wzb hE x hok
  unfold wftb
  split
  · rename_i n hn
    rw [hn] at hv
    have hv' := hv.of_flat rfl
    cases hq : Nat.ble (n + 1) 1099511627776 with
    | false => rw [cond_false]; trivial
    | true =>
      rw [cond_true]
      have hle := Nat.le_of_ble_eq_true hq
      obtain ⟨cs, h1, h2, _⟩ := Lib.run_makeNoZero (P := P) (w := w) fn.params t elem f6 (n + 1) (by omega)
      have hrun := call_mk (a := a) ho hcal f1 f2 f3 f4 f5 hx (w := w) (by rw [hv']; exact h1)
      unfold wik
      cases hk : whc H.n with
      | false => rw [cond_false]; trivial
      | true =>
        rw [cond_true]
        intro hfree
        have hf : ∀ ver, ρ H.n ver = none := fun ver => hfree H.n ver (Nat.le_refl _) (by rw [AH.push_eq]; exact Nat.lt_succ_self _)
        have hb : ∀ ρ', Sub ρ ρ' → ρ' H.n 0 = some ⟨w.heap.size, cs.size, 1⟩ → BRel ρ' (w.drew.drew.alloc (.cells cs elem)) (.cells { cells := wrp (n + 1), elem := elem, esz := 1, lens := [(wrp (n + 1)).length], wver := 0, frz := 0, pf := wac (wrp (n + 1)) }) 0 ⟨w.heap.size, cs.size, 1⟩ := by
          intro ρ' g1 g2
          refine whab (w := w) (arr := cs) (fz := (0, 0)) rfl rfl ?_ ?_ ?_ ?_ rfl
          · intro i v hiv
            have hiv : (wrp (n + 1))[i]? = some v := hiv
            have hj := waub _ _ _ hiv
            subst hj
            have hi : i < n + 1 := by
              rcases Nat.lt_or_ge i (wrp (n + 1)).length with h | h
              · rw [wat] at h; exact h
              · rw [List.getElem?_eq_none h] at hiv; cases hiv
            exact ⟨cs[i], Array.getElem?_eq_getElem (by omega), .junk⟩
          · intro h; cases h
          · intro _
            refine ⟨by simp, ?_⟩
            show (wrp (n + 1)).length ≤ _
            rw [wat]
            exact h2
          · intro i _; simp
        have hwf : ∀ b, ABlk.cells { cells := wrp (n + 1), elem := elem, esz := 1, lens := [(wrp (n + 1)).length], wver := 0, frz := 0, pf := wac (wrp (n + 1)) } = .cells b → b.WF := by
          intro b hb
          cases hb
          exact ⟨by simp, Nat.zero_le _, fun h => h⟩
        obtain ⟨r1, r2⟩ := Ext.push (w' := w.drew.drew.alloc (.cells cs elem)) hR hk rfl rfl hf hb hwf
        refine ⟨_, _, _, _, hrun, rfl, ?_, r1, r2⟩
        have := VR.slice_mk (ρ := ρ.add H.n 0 ⟨w.heap.size, cs.size, 1⟩) (a := ⟨H.n, 0, some 0⟩) (len := n + 1) (c := 0) (Ren.add_self _ _ _ _)
        simpa [capOf] using this
  · trivial
theorem wrob {ρ : Ren} {B : Nat} {H : AH} {w : World} (hR : Rel ρ B H w) {e : Env} {a : Act} {fresh : Nat} {o : Oper} {src dst t : TypeId} {x : Operand} {ti : TypeInfo} (ho : o.op = .convert src dst x) (hs : tyU P src = some (.pointer t)) (hd : tyU P dst = some .unsafePointer) (ht : wrc P t = some ti) (hz : 0 < ti.size)
    (hE : ERel ρ e a) (hk : wch o.op = true) (hops : ∀ x ∈ o.op.operands.toList, wuc x = true) : ResOK P ρ B H w (execOp a.eval o) fresh (wddb P e H (evl e x) o) := by
  have hx : wuc x = true := hops x (by rw [ho]; simp [Op.operands])
  have hv := wzb hE x hx
  have hex : execOp a.eval o = wud (convert src dst (a.eval x)) := by simp only [execOp, ho, wud]
  unfold wddb
  split
  · rename_i p h0
    rw [h0] at hv
    split
    · rename_i b hb
      obtain ⟨l, g1, g2⟩ := hv.ptr_inv
      have hC := wpu hR hb g1
      obtain ⟨r1, r2, r3, r4⟩ := wve hb
      have hlen := wqu hR hb
      obtain ⟨N, s1, s2, s3, s4⟩ := hC.shape
      have hN : p.off < N := by
        by_cases hq : b.lens = []
        · have := s2 hq; omega
        · have := (s3 hq).2; omega
      rw [hex]
      refine .val (v' := .pointer (some ⟨l.block, p.off, none⟩)) ?_ (VR.ptr g1)
      rw [wjb, g2]
      have hview : (viewAt l.block).run P w = .ok none w := by simp [viewAt, shape, Sem.run, s1]
      have hcin : (cellsIn l.block).run P w = .ok (some N) w := by simp [cellsIn, shape, Sem.run, s1]
      have hsz : ¬ ti.size = 0 := by omega
      have hoff : ¬ p.off ≥ N := by omega
      have : (convert src dst (.pointer (some ⟨l.block, p.off, none⟩))).run P w = .ok (.pointer (some ⟨l.block, p.off, none⟩)) w := by
        simp [convert, Sem.run_bind, wlb hs, wlb hd, Conv.unsafePointer, Conv.seenAt, hview, hcin, wtc ht, hsz, hoff]
      rw [this]
      rfl
    · trivial
  · exact wbd hk hE hops
theorem wsob {ρ : Ren} {B : Nat} {H : AH} {w : World} (hR : Rel ρ B H w) {e : Env} {a : Act} {fresh : Nat} {o : Oper} {src dst u : TypeId} {x : Operand} (ho : o.op = .convert src dst x) (hs : tyU P src = some .unsafePointer) (hd : tyU P dst = some (.pointer u)) {ti : TypeInfo} (ht : wrc P u = some ti)
    (hE : ERel ρ e a) (hk : wch o.op = true) (hops : ∀ x ∈ o.op.operands.toList, wuc x = true) : ResOK P ρ B H w (execOp a.eval o) fresh (wedb P e H u (evl e x) o) := by
  have hx : wuc x = true := hops x (by rw [ho]; simp [Op.operands])
  have hv := wzb hE x hx
  have hex : execOp a.eval o = wud (convert src dst (a.eval x)) := by simp only [execOp, ho, wud]
  unfold wedb
  split
  · rename_i p h0
    rw [h0] at hv
    split
    · rename_i b hb
      cases hq : rowOk P b p.off u with
      | false => rw [cond_false]; trivial
      | true =>
        rw [cond_true]
        unfold rowOk at hq
        split at hq
        · rename_i hl
          obtain ⟨l, g1, g2⟩ := hv.ptr_inv
          have hC := wpu hR hb g1
          obtain ⟨N, s1, s2, s3, s4⟩ := hC.shape
          rw [← s2 hl] at hq
          rw [hex]
          refine .val (v' := .pointer (some ⟨l.block, p.off, none⟩)) ?_ (VR.ptr g1)
          rw [wjb, g2]
          have hview : (viewAt l.block).run P w = .ok none w := by simp [viewAt, shape, Sem.run, s1]
          have hvar : (variablesAt ⟨l.block, p.off, none⟩ u 1).run P w = .ok true w := by simp [variablesAt, program, shape, Sem.run, s1, hq]
          have : (convert src dst (.pointer (some ⟨l.block, p.off, none⟩))).run P w = .ok (.pointer (some ⟨l.block, p.off, none⟩)) w := by
            by_cases hzz : ti.size = 0 <;> simp [convert, Sem.run_bind, wlb hs, wlb hd, Conv.unsafePointer, Conv.seenAt, hview, hvar, wtc ht, hzz]
          rw [this]
          rfl
        · cases hq
    · trivial
  · exact wbd hk hE hops
theorem wjs {d : TypeDesc} {t : TypeId} (h : wxsb d = some t) : d = .pointer t := by
  cases d <;> simp [wxsb] at h
  rw [h]
theorem wgy {d : TypeDesc} (h : isUns d = true) : d = .unsafePointer := by
  cases d <;> first | rfl | simp [isUns] at h
theorem wbub {ρ : Ren} {B : Nat} {H : AH} {w : World} (hR : Rel ρ B H w) {e : Env} {a : Act} {fresh : Nat} {o : Oper} {src dst : TypeId} {sd dd : TypeDesc} {x : Operand} {i : Ins} (ho : o.op = .convert src dst x) (hs : tyU P src = some sd) (hd : tyU P dst = some dd)
    (hE : ERel ρ e a) (hk : wch o.op = true) (hops : ∀ x ∈ o.op.operands.toList, wuc x = true) (hc : wsz P sd dd x o = some i) : ResOK P ρ B H w (execOp a.eval o) fresh (insA P e H fresh i) := by
  unfold wsz at hc
  split at hc
  · rename_i t ht
    split at hc
    · rename_i hu
      unfold wysb at hc
      split at hc
      · rename_i ti h3
        split at hc
        · rename_i h4
          cases hc
          exact wrob hR ho (by rw [hs, wjs ht]) (by rw [hd, wgy hu]) h3 (by simpa using h4) hE hk hops
        · cases hc
      · cases hc
    · cases hc; exact wbd hk hE hops
  · split at hc
    · rename_i hu
      split at hc
      · rename_i u hu2
        unfold wrz at hc
        split at hc
        · rename_i ti h3
          cases hc
          exact wsob hR ho (by rw [hs, wgy hu]) (by rw [hd, wjs hu2]) h3 hE hk hops
        · cases hc
      · cases hc; exact wbd hk hE hops
    · cases hc; exact wbd hk hE hops
end
end Go.Den
namespace Go.Den
noncomputable section
variable {P : Program}
theorem wbt {g : FuncId} (h : wen P g = true) (args : Array Value) (w : World) : (callFunc g args).run P w = .ok (.enter g args) w := by
  unfold wen at h
  split at h
  · rename_i fn hfn
    simp only [Bool.and_eq_true, Bool.not_eq_true', Option.isSome_iff_exists] at h
    obtain ⟨⟨b, hb⟩, hn⟩ := h
    have hn' : ¬ fn.name = "runtime.NumGoroutine" := by simpa using hn
    simp [callFunc, hfn, hb, hn']
  · cases h
theorem wtob {ρ : Ren} {B : Nat} {H : AH} {w : World} {e : Env} {a : Act} {fresh : Nat} (hE : ERel ρ e a) {o : Oper} {c : Call} {f : FuncId} (ho : o.op = .call c) (hcal : c.callee = .value (.func f)) (hops : ∀ x ∈ o.op.operands.toList, wuc x = true) (hb : wen P f = true) :
    ResOK P ρ B H w (execOp a.eval o) fresh (.call f (evls e c.args.toList)) := by
  have hargs : ∀ x ∈ c.args.toList, wuc x = true := fun x hx => hops x (by rw [ho]; simp only [Op.operands, Call.operands, Array.toList_append, List.mem_append]; exact .inr hx)
  refine ⟨c.args.map a.eval, ?_, by simpa using wdab hE c.args.toList hargs⟩
  simp only [execOp, ho, resolve, hcal, Act.eval, Deferred.ofValue]
  simp [invoke, wbt hb]
theorem wcub {ρ : Ren} {B : Nat} {H : AH} {w : World} {e : Env} {a : Act} {fresh : Nat} (hE : ERel ρ e a) {o : Oper} {c : Call} {f : Operand} (ho : o.op = .call c) (hcal : c.callee = .value f) (hops : ∀ x ∈ o.op.operands.toList, wuc x = true) :
    ResOK P ρ B H w (execOp a.eval o) fresh (dynA P (evl e f) (evls e c.args.toList)) := by
  have hargs : ∀ x ∈ c.args.toList, wuc x = true := fun x hx => hops x (by rw [ho]; simp only [Op.operands, Call.operands, Array.toList_append, List.mem_append]; exact .inr hx)
  have hf : wuc f = true := hops f (by rw [ho]; simp [Op.operands, Call.operands, hcal])
  have hv := wzb hE f hf
  unfold dynA
  split
  · rename_i g first captured h0
    rw [h0] at hv
    cases hq : wen P g with
    | false => rw [cond_false]; trivial
    | true =>
      rw [cond_true]
      obtain ⟨f', c', h1, h2, h3, h4⟩ := hv.func_inv rfl
      refine ⟨f' ++ c.args.map a.eval ++ c', ?_, ?_⟩
      · simp only [execOp, ho, resolve, hcal, h1, Deferred.ofValue]
        simp [invoke, wbt hq]
      · have := (h3.append (wdab hE c.args.toList hargs)).append h4
        simpa using this
  · trivial
theorem wbr {t : Option TypeId} {el : TypeId} (h : wnl P t = some el) : ∃ st, t = some st ∧ tyU P st = some (.slice el) := by
  unfold wnl at h
  split at h
  · split at h
    · rename_i h1; cases h; exact ⟨_, rfl, h1⟩
    · cases h
  · cases h
theorem waib {b : Builtin} (h : wzsb b = true) : b = .unsafeString := by
  cases b <;> first | rfl | simp [wzsb] at h
theorem wpab {ρ : Ren} {B : Nat} {H : AH} {w : World} (hR : Rel ρ B H w) {e : Env} {a : Act} {fresh : Nat} (hE : ERel ρ e a) {o : Oper} {c : Call} {b : Builtin} (ho : o.op = .call c) (hcal : c.callee = .builtin b) (hk : wch o.op = true) (hops : ∀ x ∈ o.op.operands.toList, wuc x = true)
    {i : Ins} (hc : wol P b c.args.toList c.argTypes o = some i) : ResOK P ρ B H w (execOp a.eval o) fresh (insA P e H fresh i) := by
  have hargs : ∀ x ∈ c.args.toList, wuc x = true := fun x hx => hops x (by rw [ho]; simp only [Op.operands, Call.operands, Array.toList_append, List.mem_append]; exact .inr hx)
  unfold wol at hc
  split at hc
  · rename_i x hx
    split at hc
    · rename_i el hd; cases hc; exact wrtb ho hcal hx hd hE hk hops
    · rename_i kt el hd; cases hc; exact wkob hR ho hcal hx hd hE hk hops
    · cases hc; exact wbd hk hE hops
    · cases hc
  · rename_i x hx
    split at hc
    · rename_i el hd; cases hc; exact wstb ho hcal hx hd hE hops
    · cases hc
  · rename_i s x hx
    split at hc
    · rename_i elem hd
      split at hc
      · rename_i ti d h1 h2
        split at hc
        · rename_i h3
          cases hc
          simp only [appOk, Bool.and_eq_true, Nat.blt_eq] at h3
          obtain ⟨h3, h4, h5⟩ := h3
          unfold zeroOk at h5
          split at h5
          · rename_i z hz
            obtain ⟨z1, z2⟩ := wuf hz
            obtain ⟨st, s1, s2⟩ := wbr hd
            obtain ⟨xt, s3, s4⟩ := Option.bind_eq_some_iff.1 h2
            have hT : AppTys P c.argTypes elem ti z := ⟨⟨st, xt, d, s1, s2, s3, s4, by cases d <;> first | exact .inl ⟨_, rfl⟩ | exact .inr rfl | cases h3⟩, h1, z1, Nat.eq_of_beq_eq_true h5, h4⟩
            rw [wnab ho hcal hx (f := Builtin.append_) (fun _ _ _ _ => rfl)]
            exact wwtb hR hT (wzb hE s (hargs s (by rw [hx]; simp))) (wzb hE x (hargs x (by rw [hx]; simp)))
          · cases h5
        · cases hc
      · cases hc
    · cases hc
  · rename_i d s hx
    split at hc
    · rename_i elem hd
      split at hc
      · rename_i ti h1
        split at hc
        · cases hc
          obtain ⟨st, s1, s2⟩ := wbr hd
          rw [wnab ho hcal hx (f := Builtin.copy_) (fun _ _ _ _ => rfl)]
          exact wmob hR s1 s2 h1 (wzb hE d (hargs d (by rw [hx]; simp))) (wzb hE s (hargs s (by rw [hx]; simp)))
        · cases hc
      · cases hc
    · cases hc
  · rename_i x hx; cases hc; exact wttb hR ho hcal hx hE hops
  · cases hc; exact wbd hk hE hops
  · cases hc; exact wbd hk hE hops
  · cases hc; exact wbd hk hE hops
  · cases hc; exact wbd hk hE hops
  · cases hc; exact wbd hk hE hops
  · unfold wvz at hc
    split at hc
    · rename_i hb
      have hb' := waib hb
      subst hb'
      unfold wuz at hc
      split at hc
      · rename_i x n hx
        split at hc
        · rename_i u hu
          cases hc
          obtain ⟨d, s1, s2⟩ := Option.bind_eq_some_iff.1 hu
          obtain ⟨pt, s3, s4⟩ := Option.bind_eq_some_iff.1 s1
          rw [wjs s2] at s4
          rw [wnab ho hcal hx (f := Builtin.unsafeString_) (fun _ _ _ _ => rfl)]
          exact wpob hR s3 s4 (wzb hE x (hargs x (by rw [hx]; simp))) (wzb hE n (hargs n (by rw [hx]; simp)))
        · cases hc
      · cases hc
    · cases hc
theorem wbib {ρ : Ren} {B : Nat} {H : AH} {w : World} {e : Env} {a : Act} {fresh : Nat} (hE : ERel ρ e a) {s : TypeId} {x : Operand} {f : Nat} (hx : wuc x = true) {i : Ins} (hc : wqq P s x f = some i) :
    ResOK P ρ B H w (wud (Instr.field s (a.eval x) f)) fresh (insA P e H fresh i) := by
  have hv := wzb hE x hx
  unfold wqq at hc
  split at hc
  · rename_i fields h1
    split at hc
    · rename_i fd h2
      have h2' : fields[f]? = some fd := h2
      have hrw : ∀ (w2 : World), (wud (Instr.field s (a.eval x) f)).run P w2 = (wud (do part fd.type (← asAgg (a.eval x)) fd.offset)).run P w2 := by
        intro w2
        rw [wjb, wjb]
        simp [Instr.field, wlb h1, h2']
      split at hc
      · rename_i ti d h3 h4
        cases hc
        have fin : ∀ r, ResOK P ρ B H w (wud (do part fd.type (← asAgg (a.eval x)) fd.offset)) fresh r → (∃ v, r = val v) ∨ r = .none → ResOK P ρ B H w (wud (Instr.field s (a.eval x) f)) fresh r := by
          intro r h hr
          rcases hr with ⟨v, rfl⟩ | rfl
          · obtain ⟨v', g1, g2⟩ := h
            exact ⟨v', by rw [hrw]; exact g1, g2⟩
          · trivial
        split
        · rename_i hd
          refine fin _ (wcy hv h4 h3 hd fd.offset) ?_
          show (∃ v, wcs fd.offset ti.size (evl e x) = val v) ∨ wcs fd.offset ti.size (evl e x) = .none
          unfold wcs
          split
          · cases Nat.ble _ _ with
            | false => exact .inr rfl
            | true => exact .inl ⟨_, rfl⟩
          · exact .inr rfl
        · rename_i hd
          refine fin _ (wby hv h4 (by simpa using hd) fd.offset) ?_
          show (∃ v, wjt fd.offset (evl e x) = val v) ∨ wjt fd.offset (evl e x) = .none
          unfold wjt
          split
          · rcases wio _ with h | h
            · exact .inr h
            · exact .inl h
          · exact .inr rfl
      · cases hc
    · cases hc
  · cases hc
theorem wcib {ρ : Ren} {B : Nat} {H : AH} {w : World} {e : Env} {a : Act} {fresh : Nat} (hE : ERel ρ e a) {o : Oper} {t : TypeId} {x y : Operand} (ho : o.op = .index t x y) (hk : wch o.op = true) (hops : ∀ x ∈ o.op.operands.toList, wuc x = true)
    {i : Ins} (hc : wsq P t x y o = some i) : ResOK P ρ B H w (execOp a.eval o) fresh (insA P e H fresh i) := by
  have hx : wuc x = true := hops x (by rw [ho]; simp [Op.operands])
  have hy : wuc y = true := hops y (by rw [ho]; simp [Op.operands])
  have hv := wzb hE x hx
  have hi := wzb hE y hy
  unfold wsq at hc
  split at hc
  · rename_i len elem h1
    split at hc
    · rename_i ti d h2 h3
      have hrw : ∀ (n : Nat), wdj (evl e y) = some n → n < len → ∀ (cs : Array Value) (w2 : World), a.eval x = .agg cs → (execOp a.eval o).run P w2 = (wud (do part elem (← asAgg (a.eval x)) (n * ti.size))).run P w2 := by
        intro n hn hlt cs w2 hcs
        obtain ⟨k, hk1⟩ := wki hn
        rw [hk1] at hi
        rw [wjb]
        simp only [execOp, ho, hi.int_inv, hcs]
        simp [Instr.index, asIntOf, wlb h1, wtc h2, asAgg]
        intro h9; omega
      have hagg : ∀ n, wdj (evl e y) = some n → n < len → ∀ r, ((∃ v, r = val v) ∧ (∃ cs, evl e x = .agg cs) ∨ r = .none) → ResOK P ρ B H w (wud (do part elem (← asAgg (a.eval x)) (n * ti.size))) fresh r → ResOK P ρ B H w (execOp a.eval o) fresh r := by
        intro n hn hlt r hr h
        rcases hr with ⟨⟨v, rfl⟩, cs, hcs⟩ | rfl
        · obtain ⟨v', g1, g2⟩ := h
          rw [hcs] at hv
          obtain ⟨cs', q1, _⟩ := hv.agg_inv
          exact ⟨v', by rw [hrw n hn hlt cs' w q1]; exact g1, g2⟩
        · trivial
      split at hc
      · rename_i hd
        cases hc
        show ResOK P ρ B H w _ fresh (wycb len ti.size (evl e x) (evl e y))
        unfold wycb
        split
        · rename_i n hn
          cases hq : Nat.blt n len with
          | false => rw [cond_false]; trivial
          | true =>
            rw [cond_true]
            have hlt : n < len := Nat.le_of_ble_eq_true hq
            refine hagg n hn hlt _ ?_ (wcy hv h3 h2 hd (n * ti.size))
            unfold wcs
            split
            · rename_i cs hcs
              cases Nat.ble _ _ with
              | false => exact .inr rfl
              | true => exact .inl ⟨⟨_, rfl⟩, cs, hcs⟩
            · exact .inr rfl
        · trivial
      · rename_i hd
        cases hc
        show ResOK P ρ B H w _ fresh (wxcb len ti.size (evl e x) (evl e y))
        unfold wxcb
        split
        · rename_i n hn
          cases hq : Nat.blt n len with
          | false => rw [cond_false]; trivial
          | true =>
            rw [cond_true]
            have hlt : n < len := Nat.le_of_ble_eq_true hq
            refine hagg n hn hlt _ ?_ (wby hv h3 (by simpa using hd) (n * ti.size))
            unfold wjt
            split
            · rename_i cs hcs
              rcases wio (cs.toList[n * ti.size]?) with h | h
              · exact .inr h
              · exact .inl ⟨h, cs, hcs⟩
            · exact .inr rfl
        · trivial
    · cases hc
  · cases hc; exact wbd hk hE hops
  · cases hc
theorem wks {ρ : Ren} {B : Nat} {H : AH} {w : World} (hR : Rel ρ B H w) {e : Env} {a : Act} {fresh : Nat} (hE : ERel ρ e a) {o : Oper} {i : Ins} (hc : comp P o = some i) :
    ResOK P ρ B H w (execOp a.eval o) fresh (insA P e H fresh i) := by
  unfold comp at hc
  split at hc
  · rename_i h0
    simp only [Bool.and_eq_true] at h0
    obtain ⟨hk, hops0⟩ := h0
    have hops := weg hops0
    have mem : ∀ {x : Operand}, x ∈ o.op.operands.toList → wuc x = true := fun h => hops _ h
    unfold watb at hc
    split at hc
    · rename_i x ho; cases hc
      exact weab hE (hops x (by rw [ho]; simp [Op.operands])) (by simp [execOp, ho])
    · rename_i x ho; cases hc
      exact weab hE (hops x (by rw [ho]; simp [Op.operands])) (by simp [execOp, ho])
    · rename_i c x y ho; cases hc
      have := waob (P := P) (B := B) (H := H) (w := w) (fresh := fresh) hE (c := c) (x := x) (y := y) (hops c (by rw [ho]; simp [Op.operands])) (hops x (by rw [ho]; simp [Op.operands])) (hops y (by rw [ho]; simp [Op.operands]))
      simp only [execOp, ho]; exact this
    · rename_i elem ho
      split at hc
      · rename_i ti h1
        split at hc
        · rename_i z h2; cases hc
          have := wktb (P := P) (ρ := ρ) (B := B) (H := H) (w := w) (fresh := fresh) h1 h2
          simp only [execOp, ho]; exact this
        · cases hc
      · cases hc
    · rename_i elem x ho; cases hc
      have := wltb (P := P) (B := B) (H := H) (w := w) (fresh := fresh) hE (elem := elem) (hops x (by rw [ho]; simp [Op.operands]))
      simp only [execOp, ho]; exact this
    · rename_i t parts ho
      have := wghb (P := P) (B := B) (H := H) (w := w) (fresh := fresh) hE (t := t) (parts := parts) (fun p hp => hops p.2 (by rw [ho]; simp only [Op.operands]; simp; exact ⟨p.1, by simpa using hp⟩)) hc
      simp only [execOp, ho]; exact this
    · rename_i t len parts ho
      have := whdb (P := P) (B := B) (H := H) (w := w) (fresh := fresh) hE (t := t) (len := len) (parts := parts) (fun p hp => hops p.2 (by rw [ho]; simp only [Op.operands]; simp; exact ⟨p.1, by simpa using hp⟩)) hc
      simp only [execOp, ho]; exact this
    · rename_i t x ho
      have := whob (fresh := fresh) hR hE (hops x (by rw [ho]; simp [Op.operands])) hc
      simp only [execOp, ho]; exact this
    · rename_i t x y ho
      split at hc
      · rename_i ti h1; cases hc; exact wwhb hR ho h1 hE hops
      · cases hc
    · rename_i x ho; cases hc; exact wgob hE (hops x (by rw [ho]; simp [Op.operands])) ho
    · rename_i op t x y yt ho
      unfold wwgb at hc
      split at hc
      · rename_i d hd
        split at hc
        · cases hc; exact wdob ho hk hE hops
        · split at hc
          · split at hc
            · exact wkdb (neg := false) ho hE hops rfl hd hc
            · exact wkdb (neg := true) ho hE hops rfl hd hc
            · cases hc
          · cases hc; exact wbd hk hE hops
      · cases hc
    · cases hc; exact wbd hk hE hops
    · rename_i src dst x ho
      unfold wtz at hc
      split at hc
      · rename_i el h1 h2
        split at hc
        · rename_i h3; cases hc; exact wutb hR ho h1 h2 h3 hE hk hops
        · cases hc
      · rename_i el h1 h2
        split at hc
        · rename_i ti h3 h4
          split at hc
          · cases hc; exact wvtb ho h1 h2 h3 hE hops
          · cases hc
        · cases hc
      · rename_i sd dd _ _ h1 h2
        exact wbub hR ho h1 h2 hE hk hops hc
      · cases hc
    · rename_i t x ho
      split at hc
      · cases hc
      · rename_i d hnot hd; cases hc
        have := wehb (P := P) (B := B) (H := H) (w := w) (fresh := fresh) hE (hops x (by rw [ho]; simp [Op.operands])) hd (fun ms h => hnot ms h)
        simp only [execOp, ho]; exact this
      · cases hc
    · rename_i fn first captured ho
      split at hc
      · rename_i hf; cases hc
        have := wbob (P := P) (B := B) (H := H) (w := w) (fresh := fresh) hE (fn := fn) (f := first) (c := captured) (fun x hx => hops x (by rw [ho]; simp only [Op.operands, Array.toList_append, List.mem_append]; exact .inl hx)) (fun x hx => hops x (by rw [ho]; simp only [Op.operands, Array.toList_append, List.mem_append]; exact .inr hx)) hf
        simp only [execOp, ho]; exact this
      · cases hc
    · rename_i t ho; cases hc
      have := whhb (P := P) (ρ := ρ) (B := B) (H := H) (w := w) (fresh := fresh) (t := t)
      simp only [execOp, ho]; exact this
    · rename_i t l c ho
      split at hc
      · rename_i elem h1
        split at hc
        · rename_i ti h2
          split at hc
          · rename_i z h3
            split at hc
            · rename_i h4; cases hc
              simp only [Bool.and_eq_true, Nat.beq_eq, Nat.blt_eq] at h4
              have := wiab (P := P) (B := B) (H := H) (w := w) (fresh := fresh) hE (l := l) (c := c) (hops l (by rw [ho]; simp [Op.operands])) (hops c (by rw [ho]; simp [Op.operands])) h1 h2 h3 h4.1 h4.2
              simp only [execOp, ho]; exact this
            · cases hc
          · cases hc
        · cases hc
      · cases hc
    · rename_i t x lo hi mx ho
      unfold wusb at hc
      split at hc
      · cases hc; exact wbd hk hE hops
      · rename_i elem h1
        split at hc
        · rename_i ti h2; cases hc; exact wptb hR ho hk hE hops h1 h2
        · cases hc
      · rename_i n elem h1
        split at hc
        · rename_i ti h2; cases hc
          have := wqtb (P := P) (B := B) (H := H) (w := w) (fresh := fresh) (lo := lo) (hi := hi) hE (hops x (by rw [ho]; simp [Op.operands])) (fun y hy => hops y (by rw [ho, hy]; simp [Op.operands])) (fun y hy => hops y (by rw [ho, hy]; simp [Op.operands])) h1 h2
          simp only [execOp, ho, Option.map_none]; exact this
        · cases hc
      · cases hc
    · rename_i s x f ho
      have := wphb (P := P) (B := B) (H := H) (w := w) (fresh := fresh) hE (hops x (by rw [ho]; simp [Op.operands])) hc
      simp only [execOp, ho]; exact this
    · rename_i s x f ho
      have := wbib (P := P) (B := B) (H := H) (w := w) (fresh := fresh) hE (hops x (by rw [ho]; simp [Op.operands])) hc
      simp only [execOp, ho]; exact this
    · rename_i t x y ho
      have := wqhb (P := P) (B := B) (H := H) (w := w) (fresh := fresh) hE (hops x (by rw [ho]; simp [Op.operands])) (hops y (by rw [ho]; simp [Op.operands])) hc
      simp only [execOp, ho]; exact this
    · rename_i t x y ho; exact wcib hE ho hk hops hc
    · rename_i t m k ok ho
      split at hc
      · rename_i kt et h1
        split at hc
        · rename_i ti h2
          split at hc
          · rename_i z h3; cases hc; exact woob hR ho h1 h2 h3 hE hk hops
          · cases hc
        · cases hc
      · cases hc
    · rename_i t m k x ho
      split at hc
      · rename_i kt et h1; cases hc
        exact wudb hR h1 (wzb hE m (hops m (by rw [ho]; simp [Op.operands]))) (wzb hE k (hops k (by rw [ho]; simp [Op.operands]))) (wzb hE x (hops x (by rw [ho]; simp [Op.operands]))) (by simp only [execOp, ho])
      · cases hc
    · rename_i t m k x ho
      split at hc
      · rename_i kt et h1; cases hc
        exact wudb hR h1 (wzb hE m (hops m (by rw [ho]; simp [Op.operands]))) (wzb hE k (hops k (by rw [ho]; simp [Op.operands]))) (wzb hE x (hops x (by rw [ho]; simp [Op.operands]))) (by simp only [execOp, ho])
      · cases hc
    · rename_i x j ho; cases hc
      have := whtb (P := P) (B := B) (H := H) (w := w) (fresh := fresh) hE (i := j) (hops x (by rw [ho]; simp [Op.operands]))
      simp only [execOp, ho]; exact this
    · cases hc; exact wbd hk hE hops
    · rename_i c ho
      split at hc
      · rename_i b hb; exact wpab hR hE ho hb hk hops hc
      · rename_i f hf
        split at hc
        · rename_i hbd; cases hc; exact wtob hE ho hf hops hbd
        · split at hc
          · rename_i hs
            unfold wqz at hc
            split at hc
            · rename_i x hx
              cases hc
              exact weab hE (hops x (by rw [ho]; simp only [Op.operands, Call.operands, Array.toList_append, List.mem_append]; exact .inr (by rw [hx]; simp))) (wztb ho hf hs hx w)
            · cases hc
          · unfold wxgb at hc
            split at hc
            · rename_i el hel
              unfold wwsb at hc
              split at hc
              · rename_i x hx
                cases hc
                exact wqob hR ho hf hel hx hE (hops x (by rw [ho]; simp only [Op.operands, Call.operands, Array.toList_append, List.mem_append]; exact .inr (by rw [hx]; simp)))
              · cases hc
            · cases hc; exact wbd hk hE hops
      · rename_i f _ hf; cases hc; exact wcub hE ho hf hops
      · cases hc
    · cases hc
  · cases hc
end
end Go.Den
namespace Go.Den
noncomputable section
structure COp where
  dst : Option Tmp
  guard : Option (Option Tmp × Bool)
  ins : Option Ins
def wdd (ops : Array Oper) : Option (Nat × Bool) → Option (Option Tmp × Bool)
  | none => none
  | some (j, want) => some ((ops[j]?).bind (·.dst), want)
def wek (P : Program) (ops : Array Oper) (o : Oper) : COp := { dst := o.dst, guard := wdd ops o.guard, ins := comp P o }
def wli (P : Program) (ops : Array Oper) (l : List Oper) : List COp := List.rec [] (fun o _ ih => wek P ops o :: ih) l
inductive AExit where
  | normal
  | exit (id : Nat)
  | goto (l : Nat)
  | ret
inductive Did where
  | none
  | did (v : Value) (nb : Option ABlk) (eff : Bool) (H : AH) (wr : List Nat)
abbrev wnc := FuncId → List Value → AH → Did
def idOf : Value → List Nat
  | .pointer (some a) => [a.block]
  | .slice (some a) _ _ => [a.block]
  | .map (some r) => [r]
  | .func _ _ ⟨[.map (some t)]⟩ => [t]
  | _ => []
def web (e : Env) : Ins → List Nat
  | .store _ x _ => idOf (evl e x)
  | .app _ _ _ s _ => idOf (evl e s)
  | .copy _ d _ => idOf (evl e d)
  | .upd _ m _ _ => idOf (evl e m)
  | .ustr _ x _ => idOf (evl e x)
  | _ => []
def wrh (cs : wnc) (wr : List Nat) (H : AH) : ARes → Did
  | .none => .none
  | .simple v .none => .did v .none false H []
  | .simple v (some b) => bif whc H.n then .did v (some b) false (H.push b) [] else .none
  | .eff v H' => bif Nat.ble H.n H'.n then .did v .none true H' wr else .none
  | .call f args => cs f args H
def wls (P : Program) (cs : wnc) (e : Env) (H : AH) : Option Ins → Did
  | some i => wrh cs (web e i) H (insA P e H H.n i)
  | none => .none
def wvp (want : Bool) : Value → Option Bool
  | .bool b => some (b == want)
  | .tuple ⟨[]⟩ => some false
  | _ => none
def gsel (g : Option (Option Tmp × Bool)) (e : Env) : Option Bool :=
  match g with
  | none => some true
  | some (some d, want) => wvp want (e.get d)
  | some (none, _) => some false
def didG (g : Option Bool) (d : Did) (H : AH) : Did := match g with
  | some true => d
  | some false => .did undef .none false H []
  | none => .none
structure Tr where
  i : Nat
  o : COp
  e : Env
  h : AH
  want : Bool
  v : Value
  nb : Option ABlk
  id : Nat
  eff : Option AH
  wr : List Nat
def looks : Option Ins → Bool
  | some i => match i with
    | .new _ _ | .box _ _ | .bslice _ _ _ _ | .load1 _ | .loadN _ _ | .slS _ _ _ _ _ _ | .lenM _ _ | .mkmap | .look _ _ _ _ _ _ | .mkslice _ _ _ _ _ _ | .b2s _ _ | .s2b _ _ | .usd _ | .topu _ _ | .frpu _ _ _ | .ustr _ _ _ => true
    | _ => false
  | none => false
def wfc (n : Nat) : List Tr → AH → AH
  | [], G => { n := n, t := G.t }
  | x :: r, G => match x.nb with
    | some b => bif Nat.ble G.n x.id then wfc n r { n := G.n, t := T.put b 40 G.t x.id } else wfc n r G
    | none => wfc n r G
def wgc : List Tr → List (Nat × AH)
  | [] => []
  | x :: r => match x.eff with
    | some G => (x.i, G) :: wgc r
    | none => wgc r
def wln (o : Oper) (ops : Array Oper) : List Tmp :=
  o.dst.toList ++ (match o.guard with | some (j, _) => ((ops[j]?).bind (·.dst)).toList | none => []) ++ o.op.operands.toList.filterMap fun | .tmp t => some t | _ => none
def wqab (ops : Array Oper) (before : Array Nat) : Bool :=
  ops.toList.zipIdx.all fun (o, i) => (ops.toList.zipIdx.all fun (p, j) => i == j || (match p.dst with
    | none => true
    | some d => !((wln o ops).contains d) || (before.getD (max i j) 0).testBit (min i j)))
def wmn (ops : Array Oper) : Bool := ops.toList.zipIdx.all fun (o, i) => o.after.toList.all fun e => !Region.binds .any e || Nat.blt e.on i
def wcr (ops : Array Oper) : Bool := wmn ops && wqab ops (Region.before ops)
def wnf (X : AH) : List (Nat × AH) → AH
  | [] => X
  | (_, Y) :: r => wnf Y r
inductive CRes where
  | tmp (t : Tmp)
  | cell1 (t : Tmp)
  | cellN (t : Tmp) (size : Nat)
  | bad
def wnn (P : Program) : ResultVar → CRes
  | .tmp t => .tmp t
  | .cell t ty => match wrc P ty, tyU P ty with
    | some i, some d => bif wlg d then .cellN t i.size else .cell1 t
    | _, _ => .bad
def resV : ARes → Option Value
  | .simple v none => some v
  | _ => none
def resA (H : AH) (e : Env) : CRes → Option Value
  | .tmp t => some (e.get t)
  | .cell1 t => resV (wzk H (e.get t))
  | .cellN t size => resV (wal H size (e.get t))
  | .bad => none
def wnj (P : Program) (H : AH) (e : Env) : List ResultVar → Option (List Value)
  | [] => some []
  | x :: r => match resA H e (wnn P x), wnj P H e r with
    | some v, some l => some (v :: l)
    | _, _ => none
def wrab : List Value → Nat → T Value → T Value
  | [], _, t => t
  | v :: r, k, t => wrab r (k + 1) (T.put v 40 t k)
def wie : List Value → Value
  | [v] => v
  | l => .tuple l.toArray
abbrev KR (R : Type) := Env → AH → Option R
def opsK {R : Type} (d : Did) (dst : Option Tmp) (e : Env) (K : KR R) : Option R :=
  match d with
  | .did v _ _ H' _ => K (e.put dst v) H'
  | .none => none
def opsA {R : Type} (P : Program) (cs : wnc) (K : KR R) (l : List COp) : KR R :=
  List.rec K (fun o _ ih e H => opsK (didG (gsel o.guard e) (wls P cs e H o.ins) H) o.dst e ih) l
def wfb (e : Env) : Ins → List Nat
  | .load1 x => idOf (evl e x)
  | .loadN _ x => idOf (evl e x)
  | .slS _ x _ _ _ _ => idOf (evl e x)
  | .lenM x _ => idOf (evl e x)
  | .look _ _ _ m _ _ => idOf (evl e m)
  | .b2s x _ => idOf (evl e x)
  | .usd x => idOf (evl e x)
  | .topu x _ => idOf (evl e x)
  | .frpu _ x _ => idOf (evl e x)
  | .ustr _ x _ => idOf (evl e x)
  | _ => []
def wwdb (e : Env) : Option Ins → List Nat
  | some i => wfb e i
  | none => []
structure Ti where
  i : Nat
  rd : List Nat
  eff : Option (List Nat × Nat × Nat)
def tiRd (nb : Option ABlk) (n : Nat) (l : List Nat) : List Nat := match nb with
  | some _ => n :: l
  | none => l
def tiOf (g : Option Bool) (i : Nat) (o : COp) (e : Env) (H : AH) (nb : Option ABlk) (eff : Bool) (H' : AH) (wr : List Nat) (acc : List Ti) : List Ti := match g with
  | some true => (bif eff then ⟨i, [], some (wr, H.n, H'.n)⟩ else ⟨i, tiRd nb H.n (bif looks o.ins then wwdb e o.ins else []), none⟩) :: acc
  | _ => acc
def wiy (p : List Nat × Nat × Nat) (id : Nat) : Bool := !(p.1.contains id) && !(Nat.ble p.2.1 id && Nat.blt id p.2.2)
def sep2 (before : Array Nat) (x y : Ti) : Bool := match x.eff, y.eff with
  | none, some p => (before.getD y.i 0).testBit x.i || ((before.getD x.i 0).testBit y.i || x.rd.all (wiy p))
  | _, _ => true
def wwj (before : Array Nat) (l : List Ti) : Bool := l.all fun x => l.all fun y => sep2 before x y
def wah (before : Array Nat) : List Ti → Bool
  | [] => true
  | x :: r => (match x.eff with
    | some _ => r.all fun y => match y.eff with
      | some _ => (before.getD y.i 0).testBit x.i
      | none => true
    | none => true) && wah before r
def wav {R : Type} (ops : Array Oper) (acc : List Ti) (K : KR R) (e : Env) (H : AH) : Option R :=
  bif wah (Region.before ops) acc.reverse && wwj (Region.before ops) acc then K e H else none
def opsKD {R : Type} (d : Did) (o : COp) (i : Nat) (acc : List Ti) (e : Env) (H : AH) (K : Nat → List Ti → KR R) : Option R :=
  match d with
  | .did v nb eff H' wr => K (Nat.succ i) (tiOf (gsel o.guard e) i o e H nb eff H' wr acc) (e.put o.dst v) H'
  | .none => none
def opsD {R : Type} (P : Program) (cs : wnc) (ops : Array Oper) (K : KR R) (l : List COp) : Nat → List Ti → KR R :=
  List.rec (fun _ acc e H => wav ops acc K e H) (fun o _ ih i acc e H => opsKD (didG (gsel o.guard e) (wls P cs e H o.ins) H) o i acc e H ih) l
def wdub {R : Type} (P : Program) (cs : wnc) (ops : Array Oper) (K : KR R) (e : Env) (H : AH) : Option R :=
  bif wcr ops then opsD P cs ops K (wli P ops ops.toList) 0 [] e H else none
abbrev Frs := List (Nat × Nat)
def wmt : Option (List Value × Frs) → Option (List Value × Frs) → Option (List Value × Frs)
  | some (a, f), some (b, g) => some (a ++ b, f ++ g)
  | _, _ => none
def wfg (P : Program) (b : CBlk) : Nat := match b.lens with
  | [] => (match wrc P b.elem with | some i => i.size | none => 0)
  | _ => b.esz
def wxdb (H : AH) (size len : Nat) (a : Addr) : Nat → Bool
  | 0 => whj size a H (len * size)
  | c + 1 => Nat.ble len c && Nat.blt 0 size
def won (P : Program) (H : AH) (sl : List Value → Option (List Value × Frs)) (a : Addr) (len c : Nat) : Option (Value × Frs) :=
  match H.get a.block with
  | some (.cells b) =>
    bif wxdb H (wfg P b) len a c && rdOk b (aver a) (a.off + len * wfg P b) then
      (match (bif b.pf then some (slotsOf b.cells a.off (len * wfg P b), []) else sl (slotsOf b.cells a.off (len * wfg P b))) with
      | some (cs, f) => bif wac cs && whc a.block then some (FL len cs, (a.block, a.off + len * wfg P b) :: f) else none
      | none => none)
    else none
  | _ => none
def wle (P : Program) (H : AH) (sl : List Value → Option (List Value × Frs)) (v : Value) : Option (Value × Frs) := match v with
  | .slice none 0 0 => some (FL 0 [], [])
  | .slice (some _) 0 _ => some (FL 0 [], [])
  | .slice (some a) (n + 1) c => won P H sl a (n + 1) c
  | .agg ⟨cs⟩ => (match sl cs with | some (l, f) => some (.agg ⟨l⟩, f) | none => none)
  | .tuple ⟨cs⟩ => (match sl cs with | some (l, f) => some (.tuple ⟨l⟩, f) | none => none)
  | .iface t v => (match sl [v] with | some ([u], f) => some (.iface t u, f) | _ => none)
  | .func (.yield n) ⟨cs⟩ ⟨[.map (some _)]⟩ => some (FL n cs, [])
  | .func (.func g) ⟨f⟩ ⟨c⟩ => (match sl f, sl c with | some (a, p), some (b, q) => some (.func (.func g) ⟨a⟩ ⟨b⟩, p ++ q) | _, _ => none)
  | v => some (v, [])
def one2 : Option (Value × Frs) → Option (List Value × Frs)
  | some (v, f) => some ([v], f)
  | none => none
def wkg (P : Program) (H : AH) (d : Nat) : List Value → Option (List Value × Frs) :=
  Nat.rec (fun _ => none) (fun _ ih l => List.rec (some ([], [])) (fun v _ r => wmt (one2 (wle P H ih v)) r) l) d
def wydb (n : Nat) : Option ABlk → Option ABlk
  | some (.cells b) => some (.cells { b with frz := Nat.max b.frz n })
  | o => o
def frz1 (H : AH) (id n : Nat) : Option ABlk → AH
  | some b => H.set id b
  | none => H
def raise (H : AH) (l : Frs) : AH := List.rec H (fun p _ ih => frz1 ih p.1 p.2 (wydb p.2 (ih.get p.1))) l
mutual
def refs : Value → List (Nat × Nat)
  | .pointer (some a) => [(a.block, aver a)]
  | .slice (some a) n c => bif Nat.beq n 0 && Nat.ble c 1 then [] else [(a.block, aver a)]
  | .map (some r) => [(r, 0)]
  | .func fn f c => match fn with
    | .yield n => weib n c
    | _ => wdib f ++ wdib c
  | .iface _ v => refs v
  | .agg cs => wdib cs
  | .tuple vs => wdib vs
  | _ => []
def wdib : Array Value → List (Nat × Nat)
  | ⟨l⟩ => wvd l
def wvd : List Value → List (Nat × Nat)
  | [] => []
  | v :: r => refs v ++ wvd r
def weib (n : Nat) : Array Value → List (Nat × Nat)
  | ⟨.map (some t) :: _⟩ => [(t, n)]
  | _ => []
end
mutual
def toks : Value → List Nat
  | .map (some r) => [r]
  | .func fn f c => match fn with
    | .yield _ => wgib c
    | _ => wfib f ++ wfib c
  | .iface _ v => toks v
  | .agg cs => wfib cs
  | .tuple vs => wfib vs
  | _ => []
def wfib : Array Value → List Nat
  | ⟨l⟩ => wdp l
def wdp : List Value → List Nat
  | [] => []
  | v :: r => toks v ++ wdp r
def wgib : Array Value → List Nat
  | ⟨.map (some t) :: _⟩ => [t]
  | _ => []
end
def whib : List (Value × Value) → List Nat
  | [] => []
  | e :: r => toks e.2 ++ whib r
def wsab : Option ABlk → List Nat
  | some (.cells b) => bif b.pf then [] else wdp b.cells
  | some (.map es) => whib es
  | _ => []
def wbv : List (Value × Value) → List (Nat × Nat)
  | [] => []
  | e :: r => refs e.2 ++ wbv r
def wwp : Option ABlk → List (Nat × Nat)
  | some (.cells b) => bif b.pf then [] else wvd b.cells
  | some (.map es) => wbv es
  | _ => []
def memN (n : Nat) : List Nat → Bool
  | [] => false
  | a :: r => bif Nat.beq a n then true else memN n r
def clo (H : AH) (d : Nat) : List Nat → List Nat → Option (List Nat) :=
  Nat.rec (fun _ _ => none) (fun _ ih done todo => List.rec (some done) (fun id r _ => bif memN id done then ih done r else ih (done ++ [id]) (r ++ (wwp (H.get id)).map (·.1))) todo) d
def wvf : Option ABlk → Nat
  | some (.cells b) => b.top
  | _ => 0
def isOpen : Option ABlk → Bool
  | some (.cells b) => (match b.lens with | [] => false | _ => true)
  | _ => false
def idxOf (n : Nat) : List Nat → Nat → Nat
  | [], k => k
  | a :: r, k => bif Nat.beq a n then k else idxOf n r (k + 1)
abbrev Nm := Nat → Nat → Nat × Nat
def wxp : Option Nat → Nat → Option Nat
  | none, 0 => none
  | _, s => some s
def renA (m : Nm) (a : Addr) : Addr := ⟨(m a.block (aver a)).1, a.off, wxp a.spot (m a.block (aver a)).2⟩
mutual
def renV (m : Nm) : Value → Value
  | .pointer (some a) => .pointer (some (renA m a))
  | .slice (some a) n c => bif Nat.beq n 0 && Nat.ble c 1 then .slice (some a) n c else .slice (some (renA m a)) n c
  | .map (some r) => .map (some (m r 0).1)
  | .func fn f c => match fn with
    | .yield n => .func (.yield n) f (renTok m n c)
    | fn => .func fn (wnt m f) (wnt m c)
  | .iface t v => .iface t (renV m v)
  | .agg cs => .agg (wnt m cs)
  | .tuple vs => .tuple (wnt m vs)
  | v => v
def wnt (m : Nm) : Array Value → Array Value
  | ⟨l⟩ => ⟨whd m l⟩
def whd (m : Nm) : List Value → List Value
  | [] => []
  | v :: r => renV m v :: whd m r
def renTok (m : Nm) (n : Nat) : Array Value → Array Value
  | ⟨.map (some t) :: r⟩ => ⟨.map (some (m t n).1) :: r⟩
  | c => c
end
def renM (m : Nm) : List (Value × Value) → List (Value × Value)
  | [] => []
  | e :: r => (e.1, renV m e.2) :: renM m r
def renB (m : Nm) (cmp : Bool) : Option ABlk → Option ABlk
  | some (.cells b) => bif cmp then some (.cells { b with cells := (bif b.pf then b.cells else whd m b.cells), lens := [b.lenAt b.top], wver := 0 })
      else some (.cells { b with cells := (bif b.pf then b.cells else whd m b.cells) })
  | some (.map es) => some (.map (renM m es))
  | some (.tok m e z) => some (.tok m e z)
  | none => none
def addO (H : AH) : Option ABlk → AH
  | some b => H.push b
  | none => AH.rec (fun n t => wgj n fun n => ⟨Nat.succ n, t⟩) H
def wsh (l : List (Option ABlk)) (H : AH) : AH := List.rec (fun H => H) (fun b _ ih H => ih (addO H b)) l H
def wms : List Nat → Bool
  | [] => true
  | a :: r => !(memN a r) && wms r
def wfx (H : AH) (rs : List (Nat × Nat)) (p : Nat) (ix id : Nat) : Bool :=
  Nat.ble p ix && (isOpen (H.get id) && rs.all fun r => bif Nat.beq r.1 id then Nat.beq r.2 (wvf (H.get id)) else true)
def wyb (H : AH) : List Nat → List (Nat × Nat)
  | [] => []
  | id :: r => wwp (H.get id) ++ wyb H r
def wsg (H : AH) : List Nat → List Nat
  | [] => []
  | id :: r => wsab (H.get id) ++ wsg H r
def wme (H : AH) (rs : List (Nat × Nat)) (p : Nat) : List Nat → Nat → List (Nat × Bool)
  | [], _ => []
  | id :: r, ix => (id, wfx H rs p ix id) :: wme H rs p r (ix + 1)
def wjf (n : Nat) : List (Nat × Bool) → Bool
  | [] => false
  | a :: r => bif Nat.beq a.1 n then a.2 else wjf n r
def nmOf (L : List Nat) (cs : List (Nat × Bool)) : Nm := fun id ver => (idxOf id L 0, bif wjf id cs then 0 else ver)
def wwm (H : AH) (m : Nm) : List (Nat × Bool) → List (Option ABlk)
  | [] => []
  | c :: r => renB m c.2 (H.get c.1) :: wwm H m r
def AH0 : AH := ⟨0, .leaf⟩
def wcv (cs : List (Nat × Bool)) (ts : List Nat) : Bool := ts.all fun t => !wjf t cs
def wdr (L : List Nat) (rs : List (Nat × Nat)) : Bool := rs.all fun r => memN r.1 L
def hasAll (H : AH) : List Nat → Bool
  | [] => true
  | id :: r => (H.get id).isSome && hasAll H r
def pins (p : Nat) : List Nat → Nat → Bool
  | [], i => Nat.ble p i
  | a :: r, i => bif Nat.blt i p then Nat.beq a i && pins p r (i + 1) else true
structure Nrm where
  L : List Nat
  m : Nm
  H : AH
def wzdb (H : AH) (p : Nat) (vs : List Value) : Option (List Nat) → Option Nrm
  | some L => bif wms L && (pins p L 0 && hasAll H L && (wdr L (wvd vs ++ wyb H L) && (whc L.length && wcv (wme H (wvd vs ++ wyb H L) p L 0) (wdp vs ++ wsg H L)))) then
      some ⟨L, nmOf L (wme H (wvd vs ++ wyb H L) p L 0), wsh (wwm H (nmOf L (wme H (wvd vs ++ wyb H L) p L 0)) (wme H (wvd vs ++ wyb H L) p L 0)) AH0⟩
    else none
  | none => none
def upto (n : Nat) : List Nat := Nat.rec [] (fun k ih => ih ++ [k]) n
def wte (H : AH) (p : Nat) (vs : List Value) : Option Nrm := wzdb H p vs (clo H 100000 [] (upto p ++ (wvd vs).map (·.1)))
end
end Go.Den
namespace Go.Den
noncomputable section
variable {P : Program}
structure Post (ρ : Ren) (B : Nat) (H : AH) (w : World) (ρ' : Ren) (H' : AH) (w' : World) : Prop where
  rel : Rel ρ' B H' w'
  ext : Ext ρ H w ρ' H' w'
theorem Post.refl {ρ : Ren} {B : Nat} {H : AH} {w : World} (h : Rel ρ B H w) : Post ρ B H w ρ H w := ⟨h, .refl ρ H w⟩
theorem Post.trans {ρ ρ1 ρ2 : Ren} {B : Nat} {H H1 H2 : AH} {w w1 w2 : World} (h : Post ρ B H w ρ1 H1 w1) (h' : Post ρ1 B H1 w1 ρ2 H2 w2) (hf : Free ρ H.n H2.n) : Post ρ B H w ρ2 H2 w2 :=
  ⟨h'.rel, h.ext.trans h.rel.low h'.ext hf⟩
theorem Free.sub {ρ : Ren} {n m m' : Nat} (h : Free ρ n m') (hm : m ≤ m') : Free ρ n m := fun id ver a b => h id ver a (by omega)
def GOK (G : Nat → Option (List Value)) (ρ : Ren) : Prop := ∀ i, VR ρ (wtnb (G i)) (.pointer (some ⟨i, 0, none⟩))
theorem ERel.gok {ρ : Ren} {e : Env} {a : Act} (h : ERel ρ e a) : GOK e.g.1 ρ := fun i => h.glob i
theorem GOK.cells {G : Nat → Option (List Value)} {ρ ρ' : Ren} (h : GOK G ρ) (hc : ∀ b i v, ρ.cell b i = some v → ρ'.cell b i = some v) : GOK G ρ' := by
  intro i
  refine (h i).reloc hc ?_
  cases G i <;> rfl
structure CallOK (P : Program) (G : Nat → Option (List Value)) (f : FuncId) (args : List Value) (H : AH) (v : Value) (H' : AH) (wr : List Nat) : Prop where
  n : H.n ≤ H'.n
  frame : (∀ id b, H.get id = some b → id < H.n) → (∀ id b, H'.get id = some b → id < H'.n) ∧ ∀ id, id ∉ wr → id < H.n → H'.get id = H.get id
  run : ∀ (ρ : Ren) (B : Nat) (w : World) (args' : Array Value), Rel ρ B H w → GOK G ρ → VRL ρ args args'.toList → Free ρ H.n H'.n →
    Calls P f args' w fun e w' => ∃ ρ' v', e = .returned v' ∧ VR ρ' v v' ∧ Post ρ B H w ρ' H' w'
def CSOK (P : Program) (G : Nat → Option (List Value)) (cs : wnc) : Prop := ∀ f args H v nb eff H' wr, cs f args H = .did v nb eff H' wr → nb = none ∧ eff = true ∧ CallOK P G f args H v H' wr
def weub (P : Program) (o : Oper) (e : Env) (H : AH) : Did → Prop
  | .none => True
  | .did v _ _ H' _ => H.n ≤ H'.n ∧ ∀ (ρ : Ren) (B : Nat) (w : World) (a : Act) (K : Act → World → Prop) (Q : Exit → Act → World → Prop), Rel ρ B H w → ERel ρ e a → Free ρ H.n H'.n →
      (∀ ρ' v' w', VR ρ' v v' → Post ρ B H w ρ' H' w' → K (a.put o.dst v') w') → o.wp P a w K Q
theorem wei (H : AH) (b : ABlk) : (H.push b).n = H.n + 1 := by rw [AH.push_eq]
def Low (H : AH) : Prop := ∀ id b, H.get id = some b → id < H.n
theorem Low.push {H : AH} (h : Low H) (hk : whc H.n = true) (b : ABlk) : Low (H.push b) := by
  intro id c hc
  rw [AH.get_push hk] at hc
  rw [wei]
  split at hc
  · omega
  · have := h id c hc; omega
theorem step_ok {cs : wnc} {o : Oper} {e : Env} {H : AH} (hrec : CSOK P e.g.1 cs) : weub P o e H (wls P cs e H (comp P o)) := by
  cases hc : comp P o with
  | none => trivial
  | some i =>
    show weub P o e H (wrh cs (web e i) H (insA P e H H.n i))
    have key := fun (ρ : Ren) (B : Nat) (w : World) (a : Act) (hR : Rel ρ B H w) (hE : ERel ρ e a) => wks (fresh := H.n) hR hE hc
    cases hr : insA P e H H.n i with
    | none => trivial
    | simple v nb =>
      cases nb with
      | none =>
        refine ⟨Nat.le_refl _, fun ρ B w a K Q hR hE _ hK => ?_⟩
        have := key ρ B w a hR hE
        rw [hr] at this
        obtain ⟨v', h1, h2⟩ := this
        show o.upon P a K Q ((execOp a.eval o).run P w)
        rw [h1]
        exact hK ρ v' w h2 (.refl hR)
      | some b =>
        show weub P o e H (bif whc H.n then .did v (some b) false (H.push b) [] else .none)
        cases hk : whc H.n with
        | false => trivial
        | true =>
          rw [cond_true]
          refine ⟨by rw [wei]; omega, fun ρ B w a K Q hR hE hfree hK => ?_⟩
          have := key ρ B w a hR hE
          rw [hr] at this
          obtain ⟨v', w', obj, l, h1, h2, h6, h3, h4, h5⟩ := this
          have hf : ∀ ver, ρ H.n ver = none := fun ver => hfree H.n ver (Nat.le_refl _) (by rw [wei]; omega)
          obtain ⟨r1, r2⟩ := Ext.push hR hk h2 h3 hf (fun ρ' a b => (h4 ρ' a b).2) h5 h6
          show o.upon P a K Q ((execOp a.eval o).run P w)
          rw [h1]
          exact hK _ v' w' (h4 _ (Ren.sub_add (hf 0)) (Ren.add_self _ _ _ _)).1 ⟨r1, r2⟩
    | eff v H' =>
      show weub P o e H (bif Nat.ble H.n H'.n then .did v .none true H' (web e i) else .none)
      cases hb : Nat.ble H.n H'.n with
      | false => trivial
      | true =>
      rw [cond_true]
      have hn : H.n ≤ H'.n := Nat.le_of_ble_eq_true hb
      refine ⟨hn, fun ρ B w a K Q hR hE hfree hK => ?_⟩
      have := key ρ B w a hR hE
      rw [hr] at this
      obtain ⟨nx, v', w', ρ', h1, h2, h3, h4, h5⟩ := this hfree
      show o.upon P a K Q ((execOp a.eval o).run P w)
      rw [h1]
      unfold outOf at h2
      split at h2
      · cases h2; exact hK ρ' _ w' h3 ⟨h4, h5⟩
      · cases h2; exact hK ρ' _ w' h3 ⟨h4, h5⟩
      · cases h2
    | call f args =>
      show weub P o e H (cs f args H)
      cases hq : cs f args H with
      | none => trivial
      | did v nb eff H' wr =>
        obtain ⟨_, _, hcall⟩ := hrec _ _ _ _ _ _ _ _ hq
        refine ⟨hcall.n, fun ρ B w a K Q hR hE hfree hK => ?_⟩
        have := key ρ B w a hR hE
        rw [hr] at this
        obtain ⟨args', h1, h2⟩ := this
        show o.upon P a K Q ((execOp a.eval o).run P w)
        rw [h1]
        refine (hcall.run ρ B w args' hR hE.gok h2 hfree).mono ?_
        rintro ex w' ⟨ρ', v', rfl, h3, h4⟩
        exact hK ρ' v' w' h3 h4
theorem waeb {ρ : Ren} {x x' : Value} {want b : Bool} (h : VR ρ x x') (hg : wvp want x = some b) : (x' = .bool (if want then b else !b)) ∨ (x' = undef ∧ b = false) := by
  unfold wvp at hg
  split at hg
  · rename_i c
    cases hg
    left
    rw [h.bool_inv]
    cases c <;> cases want <;> rfl
  · cases hg
    right
    exact ⟨h.of_flat rfl, rfl⟩
  · cases hg
theorem wiib {ρ : Ren} {e : Env} {a : Act} (hE : ERel ρ e a) (ops : Array Oper) (o : Oper) {b : Bool} (hg : gsel (wdd ops o.guard) e = some b) : Region.wanted o (yielded ops a.tmps) = b := by
  unfold wdd gsel at hg
  unfold Region.wanted
  cases hq : o.guard with
  | none => rw [hq] at hg; cases hg; rfl
  | some p =>
    obtain ⟨j, want⟩ := p
    rw [hq] at hg
    dsimp only at hg
    simp only [yielded]
    cases hd : (ops[j]?).bind (·.dst) with
    | none => rw [hd] at hg; cases hg; simp
    | some d =>
      rw [hd] at hg
      simp only [Option.bind_some]
      have hv := hE.get d
      by_cases hlt : d < a.tmps.size
      · have e1 : a.tmps[d]? = some a.tmps[d] := Array.getElem?_eq_getElem hlt
        have e2 : a.tmps.getD d undef = a.tmps[d] := by simp [hlt]
        rw [e1]
        rw [e2] at hv
        rcases waeb hv hg with h1 | ⟨h1, rfl⟩
        · rw [h1]; cases b <;> cases want <;> rfl
        · rw [h1]; rfl
      · have e1 : a.tmps[d]? = none := Array.getElem?_eq_none (Nat.le_of_not_lt hlt)
        have e2 : a.tmps.getD d undef = undef := by simp [hlt]
        rw [e1]
        rw [e2] at hv
        rcases waeb hv hg with h1 | ⟨_, rfl⟩
        · exact absurd h1 (by simp [undef])
        · rfl
theorem wfub {R : Type} (P : Program) (cs : wnc) (K : KR R) (o : COp) (r : List COp) (e : Env) (H : AH) :
    opsA P cs K (o :: r) e H = opsK (didG (gsel o.guard e) (wls P cs e H o.ins) H) o.dst e (opsA P cs K r) := rfl
theorem wbeb (P : Program) (ops : Array Oper) (o : Oper) (r : List Oper) : wli P ops (o :: r) = wek P ops o :: wli P ops r := rfl
theorem wgub {R : Type} {d : Did} {dst : Option Tmp} {e : Env} {K : KR R} {r : R} (h : opsK d dst e K = some r) : ∃ v nb eff H' wr, d = .did v nb eff H' wr ∧ K (e.put dst v) H' = some r := by
  unfold opsK at h
  split at h
  · exact ⟨_, _, _, _, _, rfl, h⟩
  · cases h
theorem wceb {g : Option Bool} {d : Did} {H : AH} {v : Value} {nb : Option ABlk} {eff : Bool} {H' : AH} {wr : List Nat} (h : didG g d H = .did v nb eff H' wr) :
    (g = some true ∧ d = .did v nb eff H' wr) ∨ (g = some false ∧ v = undef ∧ nb = none ∧ eff = false ∧ H' = H ∧ wr = []) := by
  unfold didG at h
  split at h
  · exact .inl ⟨rfl, h⟩
  · cases h; exact .inr ⟨rfl, rfl, rfl, rfl, rfl, rfl⟩
  · cases h
theorem ops_ok {R : Type} {cs : wnc} {G : Nat → Option (List Value)} (hrec : CSOK P G cs) (ops : Array Oper) {K : KR R} {r : R} : ∀ (l : List Oper) (k : Nat) (e : Env) (H : AH), e.g.1 = G → ops.toList.drop k = l → opsA P cs K (wli P ops l) e H = some r →
    ∃ e' H', K e' H' = some r ∧ e'.g = e.g ∧ e'.n = e.n ∧ H.n ≤ H'.n ∧ ∀ (ρ : Ren) (B : Nat) (w : World) (a : Act) (Q : Exit → Act → World → Prop), Rel ρ B H w → ERel ρ e a → Free ρ H.n H'.n →
      (∀ ρ' a' w', ERel ρ' e' a' → Post ρ B H w ρ' H' w' → Q .normal a' w') → wpOps P ops Q (List.range' k l.length) a w := by
  intro l
  induction l with
  | nil =>
    intro k e H _ _ h
    exact ⟨e, H, h, rfl, rfl, Nat.le_refl _, fun ρ B w a Q hR hE _ hQ => hQ ρ a w hE (.refl hR)⟩
  | cons o l ih =>
    intro k e H hge hd h
    have hk : ops[k]? = some o := by
      have : (ops.toList.drop k)[0]? = some o := by rw [hd]; rfl
      simpa using this
    have hd' : ops.toList.drop (k + 1) = l := by
      have : (ops.toList.drop k).drop 1 = l := by rw [hd]; rfl
      rw [List.drop_drop] at this
      exact this
    rw [wbeb, wfub] at h
    have hguard : (wek P ops o).guard = wdd ops o.guard := rfl
    have hdst : (wek P ops o).dst = o.dst := rfl
    have hins : (wek P ops o).ins = comp P o := rfl
    rw [hguard, hdst, hins] at h
    obtain ⟨v, nb, eff, H1, wr, h1, h2⟩ := wgub h
    obtain ⟨e', H', h3, hge', hne', h4, h5⟩ := ih (k + 1) _ _ (by rw [Env.put_g]; exact hge) hd' h2
    rw [Env.put_g] at hge'
    rw [Env.put_n] at hne'
    rcases wceb h1 with ⟨hg, hs⟩ | ⟨hg, rfl, rfl, rfl, rfl, rfl⟩
    · have hstep := step_ok (o := o) (e := e) (H := H) (hge ▸ hrec)
      rw [hs] at hstep
      obtain ⟨h6, h7⟩ := hstep
      refine ⟨e', H', h3, hge', hne', Nat.le_trans h6 h4, fun ρ B w a Q hR hE hf hQ => ?_⟩
      rw [List.length_cons, List.range'_succ]
      simp only [wpOps, hk]
      rw [wiib hE ops o hg]
      refine .inl (h7 ρ B w a _ Q hR hE (hf.sub h4) fun ρ1 v' w1 hv hp => ?_)
      refine h5 ρ1 B w1 _ Q hp.rel ((hE.mono hp.ext.sub).put hv o.dst) (hf.next hR.low hp.ext) fun ρ2 a2 w2 he2 hp2 => ?_
      exact hQ ρ2 a2 w2 he2 (hp.trans hp2 hf)
    · refine ⟨e', H', h3, hge', hne', h4, fun ρ B w a Q hR hE hf hQ => ?_⟩
      rw [List.length_cons, List.range'_succ]
      simp only [wpOps, hk]
      rw [wiib hE ops o hg]
      exact h5 ρ B w _ Q hR (hE.put (.flat wji) o.dst) hf hQ
def wdeb (tmps : Array Value) : ResultVar → Sem Value
  | .tmp t => pure (tmps.getD t undef)
  | .cell b t => do loadVar t (← asAddr (tmps.getD b undef))
theorem res1_ok {H : AH} {e : Env} {x : ResultVar} {v : Value} (h1 : resA H e (wnn P x) = some v) {ρ : Ren} {B : Nat} {w : World} {a : Act} (hR : Rel ρ B H w) (hE : ERel ρ e a) : ∃ v', (wdeb a.tmps x).run P w = .ok v' w ∧ VR ρ v v' := by
  cases x with
  | tmp t => cases h1; exact ⟨_, rfl, hE.get t⟩
  | cell b t =>
    simp only [wnn] at h1
    split at h1
    · rename_i ti d hti htd
      cases hd : wlg d with
      | true =>
        rw [hd, cond_true] at h1
        simp only [resA] at h1
        rcases whn H ti.size (e.get b) with h0 | ⟨y, h0⟩
        · rw [h0] at h1; cases h1
        · rw [h0] at h1
          cases h1
          obtain ⟨p, y', g1, g2, g3⟩ := wmdb hR htd hti hd (hE.get b) h0
          exact ⟨y', by simp only [wdeb, g1]; simp [asAddr, g2], g3⟩
      | false =>
        rw [hd, cond_false] at h1
        simp only [resA] at h1
        rcases wgn H (e.get b) with h0 | ⟨y, h0⟩
        · rw [h0] at h1; cases h1
        · rw [h0] at h1
          cases h1
          obtain ⟨p, y', g1, g2, g3⟩ := wldb hR htd hd (hE.get b) h0
          exact ⟨y', by simp only [wdeb, g1]; simp [asAddr, g2], g3⟩
    · cases h1
theorem wuob {H : AH} {e : Env} : ∀ (l : List ResultVar) (vs : List Value), wnj P H e l = some vs → ∀ (ρ : Ren) (B : Nat) (w : World) (a : Act), Rel ρ B H w → ERel ρ e a →
    ∃ vs', (l.mapM (wdeb a.tmps)).run P w = .ok vs' w ∧ VRL ρ vs vs' := by
  intro l
  induction l with
  | nil => intro vs h ρ B w a _ _; cases h; exact ⟨[], by simp, .nil ρ⟩
  | cons x r ih =>
    intro vs h ρ B w a hR hE
    simp only [wnj] at h
    split at h
    · rename_i v l h1 h2
      cases h
      obtain ⟨vs', h3, h4⟩ := ih l h2 ρ B w a hR hE
      obtain ⟨v', h5, h6⟩ := res1_ok h1 hR hE
      refine ⟨v' :: vs', ?_, .cons h6 h4⟩
      rw [List.mapM_cons]
      simp only [Sem.run_bind, h5, Result.andThen_ok, h3, Sem.run_pure]
    · cases h
theorem wgx {ρ : Ren} {vs vs' : List Value} (h : VRL ρ vs vs') : VR ρ (wie vs) (if h : vs'.toArray.size = 1 then vs'.toArray[0] else .tuple vs'.toArray) := by
  cases vs with
  | nil => rw [h.unnil]; exact .flat rfl
  | cons v r =>
    obtain ⟨v', r', rfl, h1, h2⟩ := h.uncons
    cases r with
    | nil => rw [h2.unnil]; exact h1
    | cons v2 r2 =>
      obtain ⟨v2', r2', rfl, h3, h4⟩ := h2.uncons
      have : ¬ (v' :: v2' :: r2').toArray.size = 1 := by simp
      rw [dif_neg this]
      exact .tuple_mk (by simpa using h)
theorem wjib {H : AH} {e : Env} {fn : Func} {vs : List Value} (h : wnj P H e fn.results.toList = some vs) {ρ : Ren} {B : Nat} {w : World} {a : Act} (hR : Rel ρ B H w) (hE : ERel ρ e a) :
    ∃ v', (results fn a.tmps).run P w = .ok v' w ∧ VR ρ (wie vs) v' := by
  obtain ⟨vs', h1, h2⟩ := wuob fn.results.toList vs h ρ B w a hR hE
  refine ⟨_, ?_, wgx h2⟩
  have e1 : (fun x => match x with
    | ResultVar.tmp t => pure (a.tmps.getD t undef)
    | ResultVar.cell b t => (do loadVar t (← asAddr (a.tmps.getD b undef)) : Sem Value)) = wdeb a.tmps := by funext x; cases x <;> rfl
  unfold results
  rw [Array.mapM_eq_mapM_toList]
  show ((List.toArray <$> fn.results.toList.mapM (fun x => match x with
    | ResultVar.tmp t => pure (a.tmps.getD t undef)
    | ResultVar.cell b t => (do loadVar t (← asAddr (a.tmps.getD b undef)) : Sem Value))) >>= fun vs => pure (if h : vs.size = 1 then vs[0] else .tuple vs)).run P w = _
  rw [e1]
  simp only [bind_map_left, Sem.run_bind, h1, Result.andThen_ok]
  rfl
end
end Go.Den
namespace Go.Den
noncomputable section
structure Cfg where
  raw : FuncId → Bool × Bool
  own : FuncId → Bool
  live : FuncId → Nat → Option (List Tmp × List Tmp × Nat)
  glob : Nat → Option (List Value)
  know : FuncId → Option (List Value → Option Value)
inductive Task where
  | call (f : FuncId) (args : List Value)
  | loop (f : FuncId) (p : Nat) (c : Code) (e : Env)
inductive Out where
  | code (x : AExit) (e : Env)
  | val (v : Value)
abbrev Rec := Task → AH → Option (Out × AH)
mutual
def beqV : Value → Value → Bool
  | .bool a, .bool b => a == b
  | .int k a, .int j b => sameKind k j && eqF a b
  | .float k a, .float j b => k == j && Nat.beq a b
  | .complex k a c, .complex j b d => k == j && (Nat.beq a b && Nat.beq c d)
  | .string a, .string b => a.data.toList == b.data.toList
  | .pointer none, .pointer none => true
  | .pointer (some a), .pointer (some b) => Nat.beq a.block b.block && (Nat.beq a.off b.off && a.spot == b.spot)
  | .slice none l c, .slice none m d => Nat.beq l m && Nat.beq c d
  | .slice (some a) l c, .slice (some b) m d => Nat.beq a.block b.block && (Nat.beq a.off b.off && (a.spot == b.spot && (Nat.beq l m && Nat.beq c d)))
  | .map a, .map b => a == b
  | .nilFunc, .nilFunc => true
  | .nilIface, .nilIface => true
  | .func f a c, .func g b d => f == g && (beqA a b && beqA c d)
  | .iface t a, .iface u b => Nat.beq t u && beqV a b
  | .agg a, .agg b => beqA a b
  | .tuple a, .tuple b => beqA a b
  | _, _ => false
def beqA : Array Value → Array Value → Bool
  | ⟨a⟩, ⟨b⟩ => beqL a b
def beqL : List Value → List Value → Bool
  | [], [] => true
  | a :: r, b :: s => beqV a b && beqL r s
  | _, _ => false
end
def beqP : List (Value × Value) → List (Value × Value) → Bool
  | [], [] => true
  | a :: r, b :: s => beqV a.1 b.1 && (beqV a.2 b.2 && beqP r s)
  | _, _ => false
def beqC (a b : CBlk) : Bool := beqL a.cells b.cells && (Nat.beq a.elem b.elem && (Nat.beq a.esz b.esz && (a.lens == b.lens && (Nat.beq a.wver b.wver && (Nat.beq a.frz b.frz && (a.mark == b.mark && a.pf == b.pf))))))
def beqB : ABlk → ABlk → Bool
  | .cells a, .cells b => beqC a b
  | .map a, .map b => beqP a b
  | .tok a b c, .tok d e f => Nat.beq a d && (Nat.beq b e && Nat.beq c f)
  | _, _ => false
def weeb : Option ABlk → Option ABlk → Bool
  | some a, some b => beqB a b
  | _, _ => false
def changed (H1 H3 : AH) (L : List Nat) : List Nat := L.filter fun id => !weeb (H1.get id) (H3.get id)
def getN : List Nat → Nat → Nat
  | [], _ => 0
  | a :: r, k => Nat.rec a (fun j _ => getN r j) k
def wij (H : AH) : List (Nat × Bool) → List Nat
  | [] => []
  | c :: r => (bif c.2 then wvf (H.get c.1) else 0) :: wij H r
def wpn (n k : Nat) (L tops : List Nat) : Nm := fun ix s => bif Nat.blt ix k then (getN L ix, bif Nat.beq (getN tops ix) 0 then s else Nat.add (getN tops ix) s) else (Nat.add n (Nat.sub ix k), s)
def zeros (n : Nat) : List Nat := Nat.rec [] (fun _ ih => 0 :: ih) n
def wvob : Option ABlk → Nat
  | some (.cells b) => b.frz
  | _ => 0
def weh (m : Nm) (cmp : Bool) (t0 f0 : Nat) : Option ABlk → Option ABlk
  | some (.cells b) => bif cmp then some (.cells { b with cells := (bif b.pf then b.cells else whd m b.cells), lens := b.lens ++ zeros t0, wver := Nat.add t0 b.wver, frz := Nat.max f0 b.frz })
      else some (.cells { b with cells := (bif b.pf then b.cells else whd m b.cells) })
  | some (.map es) => some (.map (renM m es))
  | some (.tok m e z) => some (.tok m e z)
  | none => none
def setO (H : AH) (id : Nat) : Option ABlk → AH
  | some b => H.set id b
  | none => H
def wfk (m : Nm) (H1 Hc : AH) : List (Nat × Bool) → Nat → AH → AH
  | [], _, H => H
  | c :: r, ix, H => wfk m H1 Hc r (ix + 1) (setO H c.1 (weh m c.2 (wvf (H1.get c.1)) (wvob (H1.get c.1)) (Hc.get ix)))
def news (m : Nm) (Hc : AH) (k d : Nat) (H : AH) : AH := Nat.rec (fun _ H => H) (fun _ ih k H => ih (Nat.succ k) (addO H (weh m false 0 0 (Hc.get k)))) d k H
def isNil : List Nat → Bool
  | [] => true
  | _ => false
def wxm (l : Frs) : List Nat := l.map (·.1)
def wdv (L : List Nat) : Bool := L.all whc
def wsl (Hc : AH) : List (Nat × Bool) → Nat → Bool
  | [], _ => true
  | c :: r, ix => (bif c.2 then isOpen (Hc.get ix) else true) && wsl Hc r (ix + 1)
def wtl (Hc : AH) (d : Nat) : Nat → List Nat := Nat.rec (fun _ => []) (fun _ ih k => wsab (Hc.get k) ++ ih (Nat.succ k)) d
def wev (k : Nat) (tops ts : List Nat) : Bool := ts.all fun t => bif Nat.blt t k then Nat.beq (getN tops t) 0 else true
def wjj (H1 : AH) (fr : Frs) (L : List Nat) (cs : List (Nat × Bool)) (v : Value) (Hc : AH) : Did :=
  bif wdv L && (Nat.ble L.length Hc.n && (whc (H1.n + Hc.n) && (wev L.length (wij H1 cs) (toks v ++ wtl Hc Hc.n 0) && (wsl Hc cs 0 && hasAll Hc (upto L.length))))) then
    .did (renV (wpn H1.n L.length L (wij H1 cs)) v) none true
      (news (wpn H1.n L.length L (wij H1 cs)) Hc L.length (Hc.n - L.length) (wfk (wpn H1.n L.length L (wij H1 cs)) H1 Hc cs 0 H1))
      (changed H1 (news (wpn H1.n L.length L (wij H1 cs)) Hc L.length (Hc.n - L.length) (wfk (wpn H1.n L.length L (wij H1 cs)) H1 Hc cs 0 H1)) L ++ wxm fr)
  else .none
def wer (H H1 : AH) (fr : Frs) (L : List Nat) (cs : List (Nat × Bool)) : Option (Out × AH) → Did
  | some (.val v, Hc) => bif isNil L && flat v then .did v none true H [] else wjj H1 fr L cs v Hc
  | _ => .none
def wjy (rec : Rec) (f : FuncId) (H H1 : AH) (fr : Frs) (a : List Value) : Option Nrm → Did
  | some N => wer H H1 fr N.L (wme H1 (wvd a ++ wyb H1 N.L) 0 N.L 0) (rec (.call f (whd N.m a)) N.H)
  | none => .none
def wfv (rec : Rec) (f : FuncId) (H : AH) : Option (List Value × Frs) → Did
  | some (a, fr) => wjy rec f H (raise H fr) fr a (wte (raise H fr) 0 a)
  | none => .none
def callG (rec : Rec) (f : FuncId) (H : AH) (a : List Value) (fr : Frs) : Option Value → Did
  | some v => .did v none true (raise H fr) (wxm fr)
  | none => wfv rec f H (some (a, fr))
def wfeb (rec : Rec) (f : FuncId) (H : AH) (s : Option (List Value × Frs)) : Option (List Value → Option Value) → Did
  | none => wfv rec f H s
  | some g => match s with
    | some (a, fr) => callG rec f H a fr (g a)
    | none => .none
def callS (P : Program) (cfg : Cfg) (rec : Rec) : wnc := fun f args H =>
  wfeb rec f H (bif (cfg.raw f).1 then some (args, []) else wkg P H 20 args) (cfg.know f)
def evs (e : Env) : List Tmp → List Value
  | [] => []
  | t :: r => e.get t :: evs e r
def putL (lv : List Tmp) (vs : List Value) (t : T Value) : T Value := match lv, vs with
  | k :: r, v :: s => putL r s (T.put v 40 t k)
  | _, _ => t
def wwob : Nat → T Value → T Value := fun n => Nat.rec (fun t => t) (fun k ih t => ih (T.put JK 40 t k)) n
def envL (n : Nat) (g : (Nat → Option (List Value)) × Bool) (lv : List Tmp) (vs : List Value) : Env := ⟨n, putL lv vs (wwob n .leaf), g⟩
def whx (H : AH) (k d : Nat) : List (Option ABlk) := Nat.rec (fun _ => []) (fun _ ih k => H.get k :: ih (Nat.succ k)) d k
abbrev KC (R : Type) := AExit → Env → AH → Option R
def lvOk (n : Nat) (l : List Tmp) : Bool := l.all fun t => Nat.blt t n
def whub {R : Type} (n : Nat) (g : (Nat → Option (List Value)) × Bool) (outs : List Tmp) (k : Nat) (K : KC R) : Option (Out × AH) → Option R
  | some (.code x e, H) => bif Nat.beq k 999999 then K x (envL n g outs (evs e outs)) H else (bif Nat.beq H.n k && whc k then K x (envL n g outs (evs e outs)) (wsh (whx H 0 k) AH0) else none)
  | _ => none
def wwlb {R : Type} (K : KC R) : Option (Out × AH) → Option R
  | some (.code x e, H) => K x e H
  | _ => none
def wkib {R : Type} (rec : Rec) (f : FuncId) (p : Nat) (c : Code) (n : Nat) (g : (Nat → Option (List Value)) × Bool) (ins outs : List Tmp) (k : Nat) (vs : List Value) (K : KC R) : Option Nrm → Option R
  | some N => whub n g outs k K (rec (.loop f p c (envL n g ins (whd N.m vs))) N.H)
  | none => none
def wix {R : Type} (rec : Rec) (f : FuncId) (p : Nat) (c : Code) (e : Env) (H : AH) (K : KC R) : Option (List Tmp × List Tmp × Nat) → Option R
  | some (ins, outs, k) => bif lvOk e.n ins && lvOk e.n outs then wkib rec f p c e.n e.g ins outs k (evs e ins) K (wte H p (evs e ins)) else none
  | none => wwlb K (rec (.loop f p c e) H)
def wvc : Code → Nat
  | .region id _ _ => id
  | .seq a _ => wvc a
  | .block _ c => wvc c
  | .loop c => wvc c
  | _ => 0
def wgeb {R : Type} (v : Value) (a b : Option R) : Option R := match v with
  | .bool true => a
  | .bool false => b
  | _ => none
def seqK {R : Type} (K1 : KR R) (K : KC R) : KC R := fun x e H => match x with
  | .normal => K1 e H
  | x => K x e H
def wkp {R : Type} (id : Nat) (K : KC R) : KC R := fun x e H => match x with
  | .exit j => bif Nat.beq j id then K .normal e H else K (.exit j) e H
  | x => K x e H
def wym {R : Type} (P : Program) (cfg : Cfg) (f : FuncId) (p : Nat) (rec : Rec) (c : Code) : KC R → KR R :=
  match c with
  | .skip => fun K e H => K .normal e H
  | .label _ => fun K e H => K .normal e H
  | .ret => fun K e H => K .ret e H
  | .exit id => fun K e H => K (.exit id) e H
  | .goto l => fun K e H => K (.goto l) e H
  | .region _ ops draw => fun K e H => bif draw then wdub P (callS P cfg rec) ops (K .normal) e H else opsA P (callS P cfg rec) (K .normal) (wli P ops ops.toList) e H
  | .seq a b => fun K e H => wym P cfg f p rec a (seqK (wym P cfg f p rec b K) K) e H
  | .cond c a b => fun K e H => bif wuc c then wgeb (evl e c) (wym P cfg f p rec a K e H) (wym P cfg f p rec b K e H) else none
  | .block id c => fun K e H => wym P cfg f p rec c (wkp id K) e H
  | .loop c => fun K e H => wix rec f p c e H K (cfg.live f (wvc c))
  | _ => fun _ _ _ => none
def outK : Option Nrm → Value → Option (Out × AH)
  | some N, v => some (.val (renV N.m v), N.H)
  | none, _ => none
def wxob (p : Nat) (H : AH) : Option (List Value × Frs) → Option (Out × AH)
  | some ([v], fr) => outK (wte (raise H fr) p [v]) v
  | _ => none
def valK (P : Program) (raw : Bool) (p : Nat) (H : AH) : Option (List Value) → Option (Out × AH)
  | some l => wxob p H (bif raw then some ([wie l], []) else wkg P H 20 [wie l])
  | none => none
def isEnd : AExit → Bool
  | .normal | .ret => true
  | _ => false
def retK (P : Program) (raw : Bool) (p : Nat) (rs : List ResultVar) : KC (Out × AH) := fun x e H => bif isEnd x then valK P raw p H (wnj P H e rs) else none
def wiub (P : Program) (cfg : Cfg) (rec : Rec) (f : FuncId) (args : List Value) (H : AH) : Option Func → Option (Out × AH)
  | some fn => match fn.body with
    | some c => bif Nat.ble args.length fn.ntmps && whc fn.ntmps then
        wym P cfg f H.n rec c (retK P (cfg.raw f).2 H.n fn.results.toList) { n := fn.ntmps, t := wrab args 0 .leaf, g := (cfg.glob, cfg.own f) } H else none
    | none => none
  | none => none
def wlh (ins outs : List Tmp) (n : Nat) (g : (Nat → Option (List Value)) × Bool) (rec : Rec) (f : FuncId) (p : Nat) (c : Code) (x : AExit) (e : Env) (H : AH) : Option (Out × AH) := match x with
  | .normal => (match wte H p (evs e ins) with
    | some N => rec (.loop f p c (envL n g ins (whd N.m (evs e ins)))) N.H
    | none => none)
  | x => (match wte H p (evs e outs) with
    | some N => some (.code x (envL n g outs (whd N.m (evs e outs))), N.H)
    | none => none)
def wxj (rec : Rec) (f : FuncId) (p : Nat) (c : Code) : Option (List Tmp × List Tmp × Nat) → KC (Out × AH)
  | some (ins, outs, _), x, e, H => bif lvOk e.n ins && lvOk e.n outs then wlh ins outs e.n e.g rec f p c x e H else none
  | none, .normal, e, H => rec (.loop f p c e) H
  | none, x, e, H => some (.code x e, H)
def wgv (P : Program) (cfg : Cfg) (rec : Rec) (task : Task) (H : AH) : Option (Out × AH) :=
  match task with
  | .call f args => wiub P cfg rec f args H P.funcs[f]?
  | .loop f p c e => wym P cfg f p rec c (wxj rec f p c (cfg.live f (wvc c))) e H
def den (P : Program) (cfg : Cfg) (n : Nat) : Task → AH → Option (Out × AH) := Nat.rec (fun _ _ => none) (fun _ ih => wgv P cfg ih) n
end
end Go.Den
namespace Go.Den
noncomputable section
variable {P : Program}
theorem whv (H : AH) (b : Option ABlk) : (addO H b).n = H.n + 1 := by
  cases b with
  | none => cases H; exact congrArg AH.n (wtd _ _)
  | some b => rw [addO, wei]
theorem wtab {H : AH} (hk : whc H.n = true) (hl : Low H) (b : Option ABlk) (id : Nat) : (addO H b).get id = if id = H.n then b else H.get id := by
  cases b with
  | some b => exact AH.get_push hk b id
  | none =>
    have e : (addO H none).get id = H.get id := by
      cases H with
      | mk n t => unfold addO; simp only [AH.get]; rw [wtd]
    rw [e]
    split
    · rename_i h
      cases hq : H.get id with
      | none => rfl
      | some c => have := hl id c hq; omega
    · rfl
theorem wxlb {H : AH} (hk : whc H.n = true) (hl : Low H) (b : Option ABlk) : Low (addO H b) := by
  intro id c hc
  rw [wtab hk hl] at hc
  rw [whv]
  split at hc
  · omega
  · have := hl id c hc; omega
theorem wyob (H : AH) : wsh [] H = H := rfl
theorem wiv (b : Option ABlk) (l : List (Option ABlk)) (H : AH) : wsh (b :: l) H = wsh l (addO H b) := rfl
theorem wjv : ∀ (l : List (Option ABlk)) (H : AH), whc (H.n + l.length) = true → Low H →
    (wsh l H).n = H.n + l.length ∧ Low (wsh l H) ∧ ∀ id, (wsh l H).get id = if id < H.n then H.get id else (l[id - H.n]?).join := by
  intro l
  induction l with
  | nil =>
    intro H hk hl
    refine ⟨rfl, hl, fun id => ?_⟩
    rw [wyob]
    split
    · rfl
    · rename_i h
      cases hq : H.get id with
      | none => simp
      | some c => exact absurd (hl id c hq) h
  | cons b l ih =>
    intro H hk hl
    rw [List.length_cons] at hk
    have hk' : whc H.n = true := woi hk (by omega)
    obtain ⟨h1, h2, h3⟩ := ih (addO H b) (by rw [whv]; rw [show H.n + 1 + l.length = H.n + (l.length + 1) by omega]; exact hk) (wxlb hk' hl b)
    rw [wiv]
    refine ⟨by rw [h1, whv, List.length_cons]; omega, h2, fun id => ?_⟩
    rw [h3, whv, wtab hk' hl]
    by_cases h4 : id < H.n
    · rw [if_pos (by omega), if_neg (by omega), if_pos h4]
    · rw [if_neg h4]
      by_cases h5 : id = H.n
      · subst h5
        rw [if_pos (by omega), if_pos rfl, Nat.sub_self]
        simp
      · rw [if_neg (by omega), show id - H.n = (id - (H.n + 1)) + 1 by omega]
        simp
theorem wjub : Low AH0 := fun id b h => by cases h
theorem wylb (n : Nat) : ∀ l : List Nat, memN n l = true ↔ n ∈ l := by
  intro l
  induction l with
  | nil => simp [memN]
  | cons a l ih =>
    simp only [memN]
    cases hq : Nat.beq a n with
    | true => have := Nat.eq_of_beq_eq_true hq; subst this; simp
    | false =>
      rw [cond_false, ih]
      have : ¬ n = a := fun e => by subst e; rw [Nat.beq_refl] at hq; cases hq
      simp [this]
theorem wky (n : Nat) : ∀ (l : List Nat) (k : Nat), n ∈ l → ∃ j, idxOf n l k = k + j ∧ l[j]? = some n := by
  intro l
  induction l with
  | nil => intro k h; simp at h
  | cons a l ih =>
    intro k h
    simp only [idxOf]
    cases hq : Nat.beq a n with
    | true => have := Nat.eq_of_beq_eq_true hq; subst this; exact ⟨0, rfl, rfl⟩
    | false =>
      have hne : ¬ n = a := fun e => by subst e; rw [Nat.beq_refl] at hq; cases hq
      simp only [List.mem_cons, hne, false_or] at h
      obtain ⟨j, h1, h2⟩ := ih (k + 1) h
      exact ⟨j + 1, by rw [cond_false, h1]; omega, by simpa using h2⟩
theorem wko : ∀ {l : List Nat}, wms l = true → ∀ {i j : Nat} {n : Nat}, l[i]? = some n → l[j]? = some n → i = j := by
  intro l
  induction l with
  | nil => intro _ i j n h; simp at h
  | cons a l ih =>
    intro h i j n h1 h2
    simp only [wms, Bool.and_eq_true, Bool.not_eq_true'] at h
    have ha : a ∉ l := fun hm => by rw [(wylb a l).2 hm] at h; cases h.1
    cases i with
    | zero =>
      cases j with
      | zero => rfl
      | succ j =>
        simp at h1 h2
        subst h1
        exact absurd (List.mem_of_getElem? h2) ha
    | succ i =>
      cases j with
      | zero =>
        simp at h1 h2
        subst h2
        exact absurd (List.mem_of_getElem? h1) ha
      | succ j => exact congrArg (· + 1) (ih h.2 (n := n) (by simpa using h1) (by simpa using h2))
theorem wul (H : AH) (rs : List (Nat × Nat)) (p : Nat) : ∀ (L : List Nat) (ix : Nat), (wme H rs p L ix).length = L.length ∧ ∀ (j : Nat) (id : Nat), L[j]? = some id → (wme H rs p L ix)[j]? = some (id, wfx H rs p (ix + j) id) := by
  intro L
  induction L with
  | nil => intro ix; exact ⟨rfl, fun j id h => by simp at h⟩
  | cons a L ih =>
    intro ix
    obtain ⟨h1, h2⟩ := ih (ix + 1)
    refine ⟨by simp [wme, h1], fun j id h => ?_⟩
    cases j with
    | zero => simp at h; subst h; simp [wme]
    | succ j =>
      simp only [wme, List.getElem?_cons_succ]
      rw [h2 j id (by simpa using h), show ix + 1 + j = ix + (j + 1) by omega]
theorem wzob : ∀ (cs : List (Nat × Bool)) {j : Nat} {id : Nat} {b : Bool}, (∀ {i j : Nat} {x y : Nat × Bool}, cs[i]? = some x → cs[j]? = some y → x.1 = y.1 → i = j) → cs[j]? = some (id, b) → wjf id cs = b := by
  intro cs
  induction cs with
  | nil => intro j id b _ h; simp at h
  | cons a cs ih =>
    intro j id b hu h
    simp only [wjf]
    cases j with
    | zero =>
      simp at h
      subst h
      show (bif Nat.beq id id then b else _) = b
      have : Nat.beq id id = true := Nat.beq_refl id
      rw [this, cond_true]
    | succ j =>
      have hne : Nat.beq a.1 id = false := by
        cases hq : Nat.beq a.1 id with
        | false => rfl
        | true =>
          have := hu (i := 0) (j := j + 1) (x := a) (y := (id, b)) rfl h (Nat.eq_of_beq_eq_true hq)
          omega
      rw [hne, cond_false]
      exact ih (fun {i j x y} h1 h2 h3 => by
        have := hu (i := i + 1) (j := j + 1) (by simpa using h1) (by simpa using h2) h3
        omega) (by simpa using h)
def Turns (m : Nm) (ρ ρ' : Ren) (rs : List (Nat × Nat)) : Prop :=
  ∀ r ∈ rs, ∀ l, ρ r.1 r.2 = some l → ρ' (m r.1 r.2).1 (m r.1 r.2).2 = some l
theorem Turns.sub {m : Nm} {ρ ρ' : Ren} {rs rs' : List (Nat × Nat)} (h : Turns m ρ ρ' rs) (hs : ∀ r ∈ rs', r ∈ rs) : Turns m ρ ρ' rs' := fun r hr => h r (hs r hr)
theorem wui (m : Nm) : ∀ l : List Value, (whd m l).length = l.length := by
  intro l
  induction l with
  | nil => rfl
  | cons a l ih => simp [whd, ih]
theorem wqn (m : Nm) : ∀ (l : List Value) (i : Nat), (whd m l)[i]? = (l[i]?).map (renV m) := by
  intro l
  induction l with
  | nil => intro i; simp [whd]
  | cons a l ih => intro i; cases i with
    | zero => simp [whd]
    | succ i => simp [whd, ih]
theorem wkv : ∀ {l : List Value} {v : Value}, v ∈ l → ∀ r ∈ refs v, r ∈ wvd l := by
  intro l
  induction l with
  | nil => intro v h; simp at h
  | cons a l ih =>
    intro v h r hr
    simp only [wvd, List.mem_append]
    simp only [List.mem_cons] at h
    rcases h with rfl | h
    · exact .inl hr
    · exact .inr (ih h r hr)
theorem wfr {a : Array Value} {i : Nat} {v : Value} (h : a[i]? = some v) : ∀ r ∈ refs v, r ∈ wdib a := by
  cases a with
  | mk l => exact wkv (List.mem_of_getElem? (by simpa using h))
theorem wlo (m : Nm) (a : Array Value) : (wnt m a).size = a.size := by
  cases a with
  | mk l => simp [wnt, wui]
theorem wgr (m : Nm) (a : Array Value) (i : Nat) : (wnt m a)[i]? = (a[i]?).map (renV m) := by
  cases a with
  | mk l => simp [wnt, wqn]
theorem wly {m : Nm} {fn : Fn} (hf : wqf fn = true) (f c : Array Value) : renV m (.func fn f c) = .func fn (wnt m f) (wnt m c) := by
  cases fn <;> first | rfl | cases hf
theorem wlib {fn : Fn} (hf : wqf fn = true) (f c : Array Value) : refs (.func fn f c) = wdib f ++ wdib c := by
  cases fn <;> first | rfl | cases hf
mutual
theorem wuab {m : Nm} : ∀ (v : Value), flat v = true → renV m v = v
  | .bool _, _ => rfl
  | .int _ _, _ => rfl
  | .float _ _, _ => rfl
  | .complex _ _ _, _ => rfl
  | .string _, _ => rfl
  | .pointer none, _ => rfl
  | .pointer (some _), h => by simp [flat] at h
  | .slice none _ _, _ => rfl
  | .slice (some _) _ _, h => by simp [flat] at h
  | .map none, _ => rfl
  | .map (some _), h => by simp [flat] at h
  | .chan _, _ => rfl
  | .nilFunc, _ => rfl
  | .nilIface, _ => rfl
  | .func fn f c, h => by
    simp only [flat, Bool.and_eq_true] at h
    rw [wly h.1, whr f h.2.1, whr c h.2.2]
  | .iface t v, h => by simp only [flat] at h; simp only [renV]; rw [wuab v h]
  | .agg cs, h => by simp only [flat] at h; simp only [renV]; rw [whr cs h]
  | .tuple vs, h => by simp only [flat] at h; simp only [renV]; rw [whr vs h]
theorem whr {m : Nm} : ∀ (a : Array Value), wpz a = true → wnt m a = a
  | ⟨l⟩, h => by simp only [wpz] at h; simp only [wnt]; rw [wheb l h]
theorem wheb {m : Nm} : ∀ (l : List Value), wuk l = true → whd m l = l
  | [], _ => rfl
  | v :: r, h => by
    simp only [wuk, Bool.and_eq_true] at h
    simp only [whd]
    rw [wuab v h.1, wheb r h.2]
end
theorem wvab (m : Nm) (a : Addr) : (renA m a).block = (m a.block (aver a)).1 ∧ aver (renA m a) = (m a.block (aver a)).2 := by
  refine ⟨rfl, ?_⟩
  show (wxp a.spot (m a.block (aver a)).2).getD 0 = _
  generalize (m a.block (aver a)).2 = s
  unfold wxp
  split <;> rfl
theorem wlv : ∀ {l : List Value} {v : Value}, v ∈ l → ∀ r ∈ toks v, r ∈ wdp l := by
  intro l
  induction l with
  | nil => intro v h; simp at h
  | cons a l ih =>
    intro v h r hr
    simp only [wdp, List.mem_append]
    simp only [List.mem_cons] at h
    rcases h with rfl | h
    · exact .inl hr
    · exact .inr (ih h r hr)
theorem wir {a : Array Value} {i : Nat} {v : Value} (h : a[i]? = some v) : ∀ r ∈ toks v, r ∈ wfib a := by
  cases a with
  | mk l => exact wlv (List.mem_of_getElem? (by simpa using h))
theorem wmib {fn : Fn} (hf : wqf fn = true) (f c : Array Value) : toks (.func fn f c) = wfib f ++ wfib c := by
  cases fn <;> first | rfl | cases hf
def Toks (m : Nm) (ts : List Nat) : Prop := ∀ t ∈ ts, ∀ n, (m t n).2 = n
theorem Toks.sub {m : Nm} {ts ts' : List Nat} (h : Toks m ts) (hs : ∀ r ∈ ts', r ∈ ts) : Toks m ts' := fun r hr => h r (hs r hr)
theorem wwab {m : Nm} {ρ ρ' : Ren} {v v' : Value} (h : VR ρ v v') : (∀ b i x, ρ.cell b i = some x → ρ'.cell b i = some x) → Turns m ρ ρ' (refs v) → Toks m (toks v) → VR ρ' (renV m v) v' := by
  induction h with
  | flat h => intro _ _ _; rw [wuab _ h]; exact .flat h
  | @ptr ρ a l h =>
    intro _ ht _
    have h1 := ht (a.block, aver a) (by simp [refs]) l h
    obtain ⟨e1, e2⟩ := wvab m a
    exact VR.ptr (a := renA m a) (by rw [e1, e2]; exact h1)
  | @sliceOpen ρ a l len hl h =>
    intro _ ht _
    have hb : (Nat.beq len 0 && Nat.ble 0 1) = false := by
      cases len with
      | zero => omega
      | succ n => rfl
    have h1 := ht (a.block, aver a) (by simp [refs, hb]) l h
    obtain ⟨e1, e2⟩ := wvab m a
    simp only [renV, hb, cond_false]
    exact VR.sliceOpen (a := renA m a) hl (by rw [e1, e2]; exact h1)
  | sliceEmpty => intro _ _ _; exact .sliceEmpty
  | @sliceExact ρ a l len c h =>
    intro _ ht _
    cases hb : (Nat.beq len 0 && Nat.ble (c + 1) 1) with
    | true =>
      simp only [renV, hb, cond_true]
      simp only [Bool.and_eq_true, Nat.beq_eq, Nat.ble_eq] at hb
      obtain ⟨rfl, hc⟩ := hb
      have : c = 0 := by omega
      subst this
      exact .sliceNo
    | false =>
      have h1 := ht (a.block, aver a) (by simp [refs, hb]) l h
      obtain ⟨e1, e2⟩ := wvab m a
      simp only [renV, hb, cond_false]
      exact VR.sliceExact (a := renA m a) (by rw [e1, e2]; exact h1)
  | @map ρ r l h =>
    intro _ ht hk
    have h1 := ht (r, 0) (by simp [refs]) l h
    have h2 : (m r 0).2 = 0 := hk r (by simp [toks]) 0
    rw [h2] at h1
    exact .map h1
  | @func ρ fn f c f' c' hn hf hc h1 h2 ih1 ih2 =>
    intro hcell ht hk
    rw [wly hn]
    rw [wlib hn] at ht
    rw [wmib hn] at hk
    refine .func hn (by rw [wlo]; exact hf) (by rw [wlo]; exact hc) ?_ ?_
    · intro i v v' a b
      rw [wgr, Option.map_eq_some_iff] at a
      obtain ⟨u, hu, rfl⟩ := a
      exact ih1 i u v' hu b hcell (ht.sub fun r hr => List.mem_append.2 (.inl (wfr hu r hr))) (hk.sub fun r hr => List.mem_append.2 (.inl (wir hu r hr)))
    · intro i v v' a b
      rw [wgr, Option.map_eq_some_iff] at a
      obtain ⟨u, hu, rfl⟩ := a
      exact ih2 i u v' hu b hcell (ht.sub fun r hr => List.mem_append.2 (.inr (wfr hu r hr))) (hk.sub fun r hr => List.mem_append.2 (.inr (wir hu r hr)))
  | iface h ih => intro hcell ht hk; exact .iface (ih hcell ht hk)
  | list hn f hc h ih => intro hcell _ _; exact .list hn f (fun i hi => hcell _ _ _ (hc i hi)) fun i v e => (h i v e).mono (Sub.noloc_of hcell)
  | @own ρ t n cs l hl hn hs f hc h ih =>
    intro hcell ht hk
    have h1 := ht (t, n) (by simp [refs, weib]) l hl
    have h2 : (m t n).2 = n := hk t (by simp [toks, wgib]) n
    rw [h2] at h1
    exact .own h1 hn hs f (fun i hi => hcell _ _ _ (hc i hi)) fun i v e => (h i v e).mono (Sub.noloc_of hcell)
  | @optr ρ t n cs l hl hs f hc h ih =>
    intro hcell ht hk
    have h1 := ht (t, n) (by simp [refs, weib]) l hl
    have h2 : (m t n).2 = n := hk t (by simp [toks, wgib]) n
    rw [h2] at h1
    exact .optr h1 hs f (fun i hi => hcell _ _ _ (hc i hi)) fun i v e => (h i v e).mono (Sub.noloc_of hcell)
  | listNo => intro _ _ _; exact .listNo
  | fptr f hc h ih => intro hcell _ _; exact .fptr f (fun i hi => hcell _ _ _ (hc i hi)) fun i v e => (h i v e).mono (Sub.noloc_of hcell)
  | junk => intro _ _ _; exact .junk
  | sliceNo => intro _ _ _; exact .sliceNo
  | @agg ρ cs cs' hs h ih =>
    intro hcell ht hk
    refine .agg (by rw [wlo]; exact hs) ?_
    intro i v v' a b
    rw [wgr, Option.map_eq_some_iff] at a
    obtain ⟨u, hu, rfl⟩ := a
    exact ih i u v' hu b hcell (ht.sub fun r hr => wfr hu r hr) (hk.sub fun r hr => wir hu r hr)
  | @tuple ρ cs cs' hs h ih =>
    intro hcell ht hk
    refine .tuple (by rw [wlo]; exact hs) ?_
    intro i v v' a b
    rw [wgr, Option.map_eq_some_iff] at a
    obtain ⟨u, hu, rfl⟩ := a
    exact ih i u v' hu b hcell (ht.sub fun r hr => wfr hu r hr) (hk.sub fun r hr => wir hu r hr)
def Bd (ρ : Ren) (H : AH) : Prop := ∀ id ver, H.n ≤ id → ρ id ver = none
theorem Bd.free {ρ : Ren} {H : AH} (h : Bd ρ H) (n : Nat) : Free ρ H.n n := fun id ver h1 _ => h id ver h1
theorem wjx {H : AH} : ∀ {L : List Nat} {id : Nat}, id ∈ L → ∀ r ∈ wwp (H.get id), r ∈ wyb H L := by
  intro L
  induction L with
  | nil => intro id h; simp at h
  | cons a L ih =>
    intro id h r hr
    simp only [wyb, List.mem_append]
    simp only [List.mem_cons] at h
    rcases h with rfl | h
    · exact .inl hr
    · exact .inr (ih h r hr)
theorem wkx {H : AH} : ∀ {L : List Nat} {id : Nat}, id ∈ L → ∀ r ∈ wsab (H.get id), r ∈ wsg H L := by
  intro L
  induction L with
  | nil => intro id h; simp at h
  | cons a L ih =>
    intro id h r hr
    simp only [wsg, List.mem_append]
    simp only [List.mem_cons] at h
    rcases h with rfl | h
    · exact .inl hr
    · exact .inr (ih h r hr)
theorem wwf {H : AH} : ∀ {L : List Nat}, hasAll H L = true → ∀ id ∈ L, ∃ b, H.get id = some b := by
  intro L
  induction L with
  | nil => intro _ id h; simp at h
  | cons a L ih =>
    intro h id hi
    simp only [hasAll, Bool.and_eq_true] at h
    simp only [List.mem_cons] at hi
    rcases hi with rfl | hi
    · exact Option.isSome_iff_exists.1 h.1
    · exact ih h.2 id hi
def turned (ρ : Ren) (H : AH) (L : List Nat) (cs : List (Nat × Bool)) : Ren :=
  ⟨fun ix ver => match L[ix]? with
    | some id => bif wjf id cs then (if ver = 0 then ρ id (wvf (H.get id)) else none) else ρ id ver
    | none => none, ρ.cell⟩
theorem wmv (m : Nm) : ∀ es, (renM m es).length = es.length := by
  intro es
  induction es with
  | nil => rfl
  | cons e es ih => simp [renM, ih]
theorem wzlb (m : Nm) : ∀ (es : List (Value × Value)) (i : Nat), (renM m es)[i]? = (es[i]?).map fun e => (e.1, renV m e.2) := by
  intro es
  induction es with
  | nil => intro i; simp [renM]
  | cons e es ih => intro i; cases i with
    | zero => simp [renM]
    | succ i => simp [renM, ih]
theorem wieb : ∀ {es : List (Value × Value)} {e : Value × Value}, e ∈ es → (∀ r ∈ refs e.2, r ∈ wbv es) ∧ (∀ r ∈ toks e.2, r ∈ whib es) := by
  intro es
  induction es with
  | nil => intro e h; simp at h
  | cons a es ih =>
    intro e h
    simp only [List.mem_cons] at h
    simp only [wbv, whib, List.mem_append]
    rcases h with rfl | h
    · exact ⟨fun r hr => .inl hr, fun r hr => .inl hr⟩
    · exact ⟨fun r hr => .inr ((ih h).1 r hr), fun r hr => .inr ((ih h).2 r hr)⟩
theorem wns {m : Nm} {ρ ρ' : Ren} {b : CBlk} (hwf : b.WF) (hcell : ∀ b i x, ρ.cell b i = some x → ρ'.cell b i = some x) (ht : Turns m ρ ρ' (wwp (some (.cells b)))) (hk : Toks m (wsab (some (.cells b)))) :
    ∀ (i : Nat) (v : Value), (bif b.pf then b.cells else whd m b.cells)[i]? = some v → ∃ u, b.cells[i]? = some u ∧ ∀ v', VR ρ u v' → VR ρ' v v' := by
  intro i v hv
  cases hp : b.pf with
  | true =>
    rw [hp, cond_true] at hv
    exact ⟨v, hv, fun v' h => h.reloc hcell ((wsf _).1 (hwf.pf hp) v (List.mem_of_getElem? hv))⟩
  | false =>
    rw [hp, cond_false, wqn, Option.map_eq_some_iff] at hv
    obtain ⟨u, hu, rfl⟩ := hv
    simp only [wwp, hp, cond_false] at ht
    simp only [wsab, hp, cond_false] at hk
    exact ⟨u, hu, fun v' h => wwab h hcell (ht.sub (wkv (List.mem_of_getElem? hu))) (hk.sub (wlv (List.mem_of_getElem? hu)))⟩
theorem woj (m : Nm) (b : CBlk) : (bif b.pf then b.cells else whd m b.cells).length = b.cells.length := by
  cases b.pf with
  | true => rfl
  | false => exact wui m _
theorem wvl {m : Nm} {b : CBlk} (hwf : b.WF) (hp : b.pf = true) : wac (bif b.pf then b.cells else whd m b.cells) = true := by
  rw [hp, cond_true]
  exact hwf.pf hp
theorem wyp {H : AH} {p : Nat} {vs : List Value} {N : Nrm} (h : wte H p vs = some N) {ρ : Ren} {B : Nat} {w : World} (hR : Rel ρ B H w) :
    Rel (turned ρ H N.L (wme H (wvd vs ++ wyb H N.L) p N.L 0)) B N.H w ∧ Bd (turned ρ H N.L (wme H (wvd vs ++ wyb H N.L) p N.L 0)) N.H ∧ N.H.n = N.L.length ∧
    (∀ (v v' : Value), v ∈ vs → VR ρ v v' → VR (turned ρ H N.L (wme H (wvd vs ++ wyb H N.L) p N.L 0)) (renV N.m v) v') ∧ wms N.L = true ∧ hasAll H N.L = true ∧
    (∀ ix, (N.H.get ix).isSome = true → ix < N.L.length) ∧ (∀ ix, ix < N.L.length → (N.H.get ix).isSome = true) ∧ (∀ ix, ix < p → N.L[ix]? = some ix) ∧ p ≤ N.L.length ∧
    (∀ (ix id : Nat), N.L[ix]? = some id → wjf id (wme H (wvd vs ++ wyb H N.L) p N.L 0) = wfx H (wvd vs ++ wyb H N.L) p ix id) ∧
    (∀ (ix id : Nat), N.L[ix]? = some id → wjf id (wme H (wvd vs ++ wyb H N.L) p N.L 0) = true → p ≤ ix ∧ ∃ b, H.get id = some (.cells b) ∧ b.lens ≠ []) := by
  unfold wte wzdb at h
  split at h
  · rename_i L _
    generalize hrs : wvd vs ++ wyb H L = rs at h
    generalize hcs : wme H rs p L 0 = cs at h
    cases hq : (wms L && (pins p L 0 && hasAll H L && (wdr L rs && (whc L.length && wcv cs (wdp vs ++ wsg H L))))) with
    | false => rw [hq, cond_false] at h; cases h
    | true =>
      rw [hq, cond_true] at h
      cases h
      simp only
      rw [hrs, hcs]
      simp only [Bool.and_eq_true] at hq
      obtain ⟨hnd, ⟨hpins, hall⟩, hrf, hkey, htk⟩ := hq
      have hcl : cs.length = L.length ∧ ∀ (j : Nat) (id : Nat), L[j]? = some id → cs[j]? = some (id, wfx H rs p j id) := by
        have := wul H rs p L 0
        rw [hcs] at this
        simpa using this
      have hcu : ∀ {i j : Nat} {x y : Nat × Bool}, cs[i]? = some x → cs[j]? = some y → x.1 = y.1 → i = j := by
        intro i j x y h1 h2 h3
        have hi : i < L.length := by rw [← hcl.1]; exact wti h1
        have hj : j < L.length := by rw [← hcl.1]; exact wti h2
        have g1 := hcl.2 i _ (List.getElem?_eq_getElem hi)
        have g2 := hcl.2 j _ (List.getElem?_eq_getElem hj)
        rw [h1] at g1
        rw [h2] at g2
        cases g1; cases g2
        simp only at h3
        exact wko hnd (n := L[i]) (List.getElem?_eq_getElem hi) (by rw [h3]; exact List.getElem?_eq_getElem hj)
      have hcmp : ∀ (j : Nat) (id : Nat), L[j]? = some id → wjf id cs = wfx H rs p j id := fun j id h => wzob cs hcu (hcl.2 j id h)
      have hrefs : ∀ r ∈ rs, r.1 ∈ L := by
        intro r hr
        unfold wdr at hrf
        exact (wylb _ _).1 (weg hrf r hr)
      have htoks : ∀ t ∈ wdp vs ++ wsg H L, wjf t cs = false := by
        intro t ht
        unfold wcv at htk
        have := weg htk t ht
        simpa using this
      have hTk : Toks (nmOf L cs) (wdp vs ++ wsg H L) := by
        intro t ht n
        simp only [nmOf, htoks t ht, cond_false]
      have hT : Turns (nmOf L cs) ρ (turned ρ H L cs) rs := by
        intro r hr l hl
        obtain ⟨j, h1, h2⟩ := wky r.1 L 0 (hrefs r hr)
        simp only [nmOf, turned]
        rw [h1, Nat.zero_add, h2]
        simp only
        cases hc : wjf r.1 cs with
        | false => rw [cond_false]; exact hl
        | true =>
          rw [cond_true]
          simp only [cond_true, if_true]
          rw [hcmp j r.1 h2] at hc
          unfold wfx at hc
          simp only [Bool.and_eq_true] at hc
          have := weg hc.2.2 r hr
          rw [show Nat.beq r.1 r.1 = true from Nat.beq_refl _, cond_true] at this
          rw [← Nat.eq_of_beq_eq_true this]
          exact hl
      have hbs : ∀ (cs2 : List (Nat × Bool)) (ix : Nat), (wwm H (nmOf L cs) cs2)[ix]? = (cs2[ix]?).map fun c => renB (nmOf L cs) c.2 (H.get c.1) := by
        intro cs2
        induction cs2 with
        | nil => intro ix; simp [wwm]
        | cons c cs2 ih => intro ix; cases ix with
          | zero => simp [wwm]
          | succ ix => simp [wwm, ih]
      have hbl : (wwm H (nmOf L cs) cs).length = L.length := by
        rw [← hcl.1]
        have : ∀ cs2 : List (Nat × Bool), (wwm H (nmOf L cs) cs2).length = cs2.length := by
          intro cs2
          induction cs2 with
          | nil => rfl
          | cons c cs2 ih => simp [wwm, ih]
        exact this cs
      obtain ⟨hn, hlow, hget⟩ := wjv (wwm H (nmOf L cs) cs) AH0 (by rw [hbl]; simpa [AH0] using hkey) wjub
      have hn' : (wsh (wwm H (nmOf L cs) cs) AH0).n = L.length := by rw [hn, hbl]; simp [AH0]
      have hget' : ∀ (ix id : Nat), L[ix]? = some id → (wsh (wwm H (nmOf L cs) cs) AH0).get ix = renB (nmOf L cs) (wjf id cs) (H.get id) := by
        intro ix id hi
        rw [hget ix, if_neg (by simp [AH0])]
        rw [show ix - AH0.n = ix by simp [AH0], hbs, hcl.2 ix id hi, hcmp ix id hi]
        rfl
      have hgetN : ∀ (ix : Nat), L.length ≤ ix → (wsh (wwm H (nmOf L cs) cs) AH0).get ix = none := by
        intro ix hi
        cases hx : (wsh (wwm H (nmOf L cs) cs) AH0).get ix with
        | none => rfl
        | some b => have := hlow ix b hx; omega
      have hρ : ∀ ix ver l, turned ρ H L cs ix ver = some l → ∃ id, L[ix]? = some id ∧ ((wjf id cs = true ∧ ver = 0 ∧ ρ id (wvf (H.get id)) = some l) ∨ (wjf id cs = false ∧ ρ id ver = some l)) := by
        intro ix ver l hl
        simp only [turned] at hl
        cases hx : L[ix]? with
        | none => rw [hx] at hl; cases hl
        | some id =>
          rw [hx] at hl
          simp only at hl
          refine ⟨id, rfl, ?_⟩
          cases hc : wjf id cs with
          | false => rw [hc, cond_false] at hl; exact .inr ⟨rfl, hl⟩
          | true =>
            rw [hc, cond_true] at hl
            split at hl
            · rename_i h0; exact .inl ⟨rfl, h0, hl⟩
            · cases hl
      have hcellid : ∀ b i x, ρ.cell b i = some x → (turned ρ H L cs).cell b i = some x := fun b i x h => h
      have hmemL : ∀ {ix id : Nat}, L[ix]? = some id → id ∈ L := fun h => List.mem_of_getElem? h
      have hTb : ∀ id, id ∈ L → Turns (nmOf L cs) ρ (turned ρ H L cs) (wwp (H.get id)) := fun id hi => hT.sub fun r hr => by
        rw [← hrs]; exact List.mem_append.2 (.inr (wjx hi r hr))
      have hKb : ∀ id, id ∈ L → Toks (nmOf L cs) (wsab (H.get id)) := fun id hi => hTk.sub fun r hr => List.mem_append.2 (.inr (wkx hi r hr))
      have hopen : ∀ (ix id : Nat), L[ix]? = some id → wjf id cs = true → ∃ b, H.get id = some (.cells b) ∧ b.lens ≠ [] := by
        intro ix id hi hc
        rw [hcmp ix id hi] at hc
        unfold wfx at hc
        simp only [Bool.and_eq_true] at hc
        have := hc.2.1
        unfold isOpen at this
        split at this
        · rename_i b hb
          split at this
          · cases this
          · rename_i hne; exact ⟨b, hb, hne⟩
        · cases this
      have hpp : ∀ (L : List Nat) (i : Nat), pins p L i = true → p ≤ i + L.length ∧ ∀ j, i + j < p → L[j]? = some (i + j) := by
        intro L
        induction L with
        | nil => intro i h; simp only [pins, Nat.ble_eq] at h; exact ⟨by simpa using h, fun j hj => by omega⟩
        | cons a L ih =>
          intro i h
          simp only [pins] at h
          cases hb : Nat.blt i p with
          | false =>
            have : ¬ i < p := fun h => by rw [show Nat.blt i p = true from Nat.ble_eq_true_of_le h] at hb; cases hb
            exact ⟨by omega, fun j hj => by omega⟩
          | true =>
            rw [hb, cond_true] at h
            simp only [Bool.and_eq_true, Nat.beq_eq] at h
            obtain ⟨h1, h2⟩ := ih (i + 1) h.2
            refine ⟨by simp only [List.length_cons]; omega, fun j hj => ?_⟩
            cases j with
            | zero => simp [h.1]
            | succ j => simp only [List.getElem?_cons_succ]; rw [h2 j (by omega)]; congr 1; omega
      obtain ⟨hple, hpin⟩ := hpp L 0 hpins
      refine ⟨⟨?_, ?_, hlow, ?_, ?_, hR.base, ⟨hR.fz.cell, ?_⟩⟩, ?_, hn', ?_, hnd, hall, ?_, ?_, fun ix hix => (by have := hpin ix (by omega); simpa using this), by omega, hcmp, ?_⟩
      · intro ix ver l b hl hb
        obtain ⟨id, hi, hcase⟩ := hρ ix ver l hl
        rw [hget' ix id hi] at hb
        have hm := hmemL hi
        rcases hcase with ⟨hc, rfl, hl0⟩ | ⟨hc, hl0⟩
        · obtain ⟨c, hcb, hne⟩ := hopen ix id hi hc
          rw [hc, hcb] at hb
          simp only [renB, cond_true, Option.some.injEq] at hb
          subst hb
          rw [hcb] at hl0
          simp only [wvf] at hl0
          have hB := hR.blk _ _ _ _ hl0 hcb
          have hwf := hR.wf _ _ hcb
          have hC := hB.2 hwf.wver
          obtain ⟨n, s1, s2, s3, s4⟩ := hC.shape
          have hTb' := hTb id hm
          have hKb' := hKb id hm
          rw [hcb] at hTb' hKb'
          refine ⟨Nat.zero_le _, fun _ => ⟨⟨n, s1, fun h => (by cases h), fun _ => ?_, s4⟩, ?_, hC.esz, hC.hi⟩⟩
          · refine ⟨(s3 hne).1, ?_⟩
            simp only [CBlk.lenAt, CBlk.top]
            simpa [CBlk.lenAt, CBlk.top] using (s3 hne).2
          · intro i v hi2 hv
            obtain ⟨u, hu, hrel⟩ := wns hwf hcellid hTb' hKb' i v hv
            have hi3 : i < c.lenAt c.top := by simpa [CBlk.lenAt, CBlk.top] using hi2
            obtain ⟨v', g1, g2⟩ := hC.vals i u hi3 hu
            exact ⟨v', g1, hrel v' g2⟩
        · rw [hc] at hb
          cases hbk : H.get id with
          | none => rw [hbk] at hb; cases hb
          | some bk =>
            rw [hbk] at hb
            have hB := hR.blk _ _ _ _ hl0 hbk
            have hTb' := hTb id hm
            have hKb' := hKb id hm
            rw [hbk] at hTb' hKb'
            cases bk with
            | cells c =>
              simp only [renB, cond_false, Option.some.injEq] at hb
              subst hb
              refine ⟨hB.1, fun hv => ?_⟩
              have hC := hB.2 hv
              have hwf := hR.wf _ _ hbk
              obtain ⟨n, s1, s2, s3, s4⟩ := hC.shape
              refine ⟨⟨n, s1, fun h => by rw [woj]; exact s2 h, fun h => ?_, s4⟩, ?_, hC.esz, hC.hi⟩
              · have e1 := wkn (b := c) (wv := c.wver) (pf := c.pf) (woj (nmOf L cs) c) ver
                exact ⟨(s3 h).1, by rw [e1]; exact (s3 h).2⟩
              · intro i v hi2 hv2
                obtain ⟨u, hu, hrel⟩ := wns hwf hcellid hTb' hKb' i v hv2
                have e1 := wkn (b := c) (wv := c.wver) (pf := c.pf) (woj (nmOf L cs) c) ver
                have hi3 : i < c.lenAt ver := by rw [e1] at hi2; exact hi2
                obtain ⟨v', g1, g2⟩ := hC.vals i u hi3 hu
                exact ⟨v', g1, hrel v' g2⟩
            | map es =>
              simp only [renB, Option.some.injEq] at hb
              subst hb
              obtain ⟨h0, ms, clock, q1, q2, q3⟩ := hB
              refine ⟨h0, ms, clock, q1, by rw [wmv]; exact q2, ?_⟩
              intro i e mm he hmm
              rw [wzlb, Option.map_eq_some_iff] at he
              obtain ⟨e0, he0, rfl⟩ := he
              obtain ⟨k1, k2, k3⟩ := q3 i e0 mm he0 hmm
              obtain ⟨z1, z2⟩ := wieb (List.mem_of_getElem? he0)
              exact ⟨k1, k2, wwab k3 hcellid (hTb'.sub z1) (hKb'.sub z2)⟩
            | tok m e z =>
              simp only [renB, Option.some.injEq] at hb
              subst hb
              exact hB
      · intro ix c hc
        by_cases hi : ix < L.length
        · have hi' := List.getElem?_eq_getElem hi
          rw [hget' ix _ hi'] at hc
          cases hbk : H.get L[ix] with
          | none => rw [hbk] at hc; cases hc
          | some bk =>
            rw [hbk] at hc
            cases bk with
            | cells b =>
              have hwf := hR.wf _ _ hbk
              simp only [renB] at hc
              cases hcm : wjf L[ix] cs with
              | true =>
                rw [hcm, cond_true] at hc
                cases hc
                refine ⟨?_, Nat.zero_le _, fun hp => wvl hwf hp⟩
                intro n hn
                simp only [List.mem_singleton] at hn
                subst hn
                rw [woj]
                exact hwf.lenAt_le _
              | false =>
                rw [hcm, cond_false] at hc
                cases hc
                exact ⟨fun n hn => by rw [woj]; exact hwf.lens n hn, hwf.wver, fun hp => wvl hwf hp⟩
            | map es => cases hc
            | tok m e z => cases hc
        · rw [hgetN ix (by omega)] at hc; cases hc
      · intro ix ver l ix' ver' l' h1 h2 e
        obtain ⟨id, hi, hc⟩ := hρ ix ver l h1
        obtain ⟨id', hi', hc'⟩ := hρ ix' ver' l' h2
        have g1 : ∃ v0, ρ id v0 = some l := by rcases hc with ⟨_, _, h⟩ | ⟨_, h⟩ <;> exact ⟨_, h⟩
        have g2 : ∃ v0, ρ id' v0 = some l' := by rcases hc' with ⟨_, _, h⟩ | ⟨_, h⟩ <;> exact ⟨_, h⟩
        obtain ⟨v0, g1⟩ := g1
        obtain ⟨v1, g2⟩ := g2
        have := hR.sep _ _ _ _ _ _ g1 g2 e
        subst this
        exact wko hnd hi hi'
      · intro ix ver l h1
        obtain ⟨id, hi, hc⟩ := hρ ix ver l h1
        rcases hc with ⟨_, _, h⟩ | ⟨_, h⟩ <;> exact hR.bnd _ _ _ h
      · intro ix ver l i v b hl hv hb
        obtain ⟨id, hi, hc⟩ := hρ ix ver l hl
        rw [hget' ix id hi] at hb
        cases hbk : H.get id with
        | none => rw [hbk] at hb; cases hb
        | some bk =>
          rw [hbk] at hb
          have g : ∃ v0, ρ id v0 = some l := by rcases hc with ⟨_, _, h⟩ | ⟨_, h⟩ <;> exact ⟨_, h⟩
          obtain ⟨v0, g⟩ := g
          have hs := hR.fz.sep _ _ _ _ _ _ g hv hbk
          cases bk with
          | cells c =>
            simp only [renB] at hb
            cases hcm : wjf id cs with
            | true => rw [hcm, cond_true] at hb; cases hb; exact hs
            | false => rw [hcm, cond_false] at hb; cases hb; exact hs
          | map es => exact hs.elim
          | tok m e z => simp only [renB] at hb; cases hb; exact hs
      · intro ix ver hix
        rw [hn'] at hix
        simp only [turned]
        rw [List.getElem?_eq_none hix]
      · intro v v' hv hrel
        exact wwab hrel hcellid (hT.sub fun r hr => by rw [← hrs]; exact List.mem_append.2 (.inl (wkv hv r hr))) (hTk.sub fun r hr => List.mem_append.2 (.inl (wlv hv r hr)))
      · intro ix hs
        obtain ⟨b, hb⟩ := Option.isSome_iff_exists.1 hs
        have := hlow ix b hb
        omega
      · intro ix hi
        have hi' := List.getElem?_eq_getElem hi
        rw [hget' ix _ hi']
        obtain ⟨b, hb⟩ := wwf hall L[ix] (hmemL hi')
        rw [hb]
        cases b with
        | cells b => simp only [renB]; cases wjf L[ix] cs <;> rfl
        | map es => rfl
        | tok m e z => rfl
      · intro ix id hi hc
        refine ⟨?_, hopen ix id hi hc⟩
        rw [hcmp ix id hi] at hc
        unfold wfx at hc
        simp only [Bool.and_eq_true] at hc
        exact Nat.le_of_ble_eq_true hc.1
  · cases h
end
end Go.Den
namespace Go.Den
noncomputable section
variable {P : Program}
def FrOf (ρ : Ren) (H : AH) (fr : Frs) (b i : Nat) : Prop := ∃ p ∈ fr, ∃ ver l c, ρ p.1 ver = some l ∧ l.block = b ∧ i < p.2 ∧ H.get p.1 = some (.cells c)
open Classical in
def Ren.frz (ρ : Ren) (H : AH) (w : World) (fr : Frs) : Ren := ⟨ρ.loc, fun b i => match ρ.cell b i with
  | some v => some v
  | none => if FrOf ρ H fr b i then w.cell? ⟨b, i, none⟩ else none⟩
theorem wau {ρ : Ren} {H : AH} {w : World} {fr : Frs} {b i : Nat} {v : Value} (h : (ρ.frz H w fr).cell b i = some v) : ρ.cell b i = some v ∨ (FrOf ρ H fr b i ∧ w.cell? ⟨b, i, none⟩ = some v) := by
  unfold Ren.frz at h
  simp only at h
  cases hq : ρ.cell b i with
  | some u => rw [hq] at h; exact .inl h
  | none =>
    rw [hq] at h
    simp only at h
    split at h
    · rename_i hf; exact .inr ⟨hf, h⟩
    · cases h
theorem wwl (ρ : Ren) (H : AH) (w : World) (fr : Frs) : Sub ρ (ρ.frz H w fr) := ⟨fun _ _ _ h => h, fun b i v h => by unfold Ren.frz; simp only; rw [h]⟩
theorem FrOf.mono {ρ : Ren} {H : AH} {fr fr' : Frs} (hs : ∀ p ∈ fr, p ∈ fr') {b i : Nat} (h : FrOf ρ H fr b i) : FrOf ρ H fr' b i := by
  obtain ⟨p, h1, h2⟩ := h
  exact ⟨p, hs p h1, h2⟩
theorem wjr {ρ : Ren} {H : AH} {w : World} {fr fr' : Frs} (hs : ∀ p ∈ fr, p ∈ fr') : Sub (ρ.frz H w fr) (ρ.frz H w fr') := by
  refine ⟨fun _ _ _ h => h, fun b i v h => ?_⟩
  rcases wau h with h1 | ⟨h1, h2⟩
  · exact (wwl ρ H w fr').cell b i v h1
  · unfold Ren.frz
    simp only
    cases hq : ρ.cell b i with
    | some u =>
      unfold Ren.frz at h
      simp only [hq] at h
      exact h
    | none => simp only; rw [if_pos (h1.mono hs)]; exact h2
theorem frz_get {ρ : Ren} {B : Nat} {H : AH} {w : World} (hR : Rel ρ B H w) {fr : Frs} {b i : Nat} {v : Value} (h : FrOf ρ H fr b i) (hc : w.cell? ⟨b, i, none⟩ = some v) : (ρ.frz H w fr).cell b i = some v := by
  unfold Ren.frz
  simp only
  cases hq : ρ.cell b i with
  | some u => have := hR.fz.cell b i u hq; rw [hc] at this; exact this.symm
  | none => simp only; rw [if_pos h]; exact hc
def wvi (fr : Frs) : Prop := ∀ p ∈ fr, whc p.1 = true
def wkub (ρ : Ren) (H : AH) (w : World) (r : Option (List Value × Frs)) (l' : List Value) : Prop := ∀ l2 fr, r = some (l2, fr) → wvi fr ∧ VRL (ρ.frz H w fr) l2 l'
theorem seal_row {ρ : Ren} {B : Nat} {H : AH} {w : World} (hR : Rel ρ B H w) {sl : List Value → Option (List Value × Frs)} (ih : ∀ l l', VRL ρ l l' → wkub ρ H w (sl l) l') {a : Addr} {n c : Nat} {v' u : Value} {fr : Frs} (hv : VR ρ (.slice (some a) (n + 1) c) v')
    (h : won P H sl a (n + 1) c = some (u, fr)) : wvi fr ∧ VR (ρ.frz H w fr) u v' := by
  unfold won at h
  split at h
  · rename_i b hb
    cases hq : (wxdb H (wfg P b) (n + 1) a c && rdOk b (aver a) (a.off + (n + 1) * wfg P b)) with
    | false => rw [hq, cond_false] at h; cases h
    | true =>
      rw [hq, cond_true] at h
      simp only [Bool.and_eq_true] at hq
      obtain ⟨hcap, hrd⟩ := hq
      generalize wfg P b = size at *
      have hrb : wdh H a ((n + 1) * size) = some b := by
        unfold wdh
        rw [hb]
        simp only [hrd, cond_true]
      obtain ⟨l, g1, g2⟩ := hv.slice_inv (.inl (by omega))
      have hsz : 0 < size := by
        cases c with
        | zero => simp only [wxdb] at hcap; obtain ⟨_, _, _, _, _, h5⟩ := wql hcap; exact h5
        | succ c => simp only [wxdb, Bool.and_eq_true, Nat.blt_eq] at hcap; exact hcap.2
      have hle : n + 1 ≤ capOf l a c := by
        cases c with
        | zero =>
          simp only [wxdb] at hcap
          obtain ⟨r1, r2, r3, r4⟩ := wvj hR hcap g1
          simp only [capOf, r1]
          omega
        | succ c => simp only [wxdb, Bool.and_eq_true, Nat.ble_eq] at hcap; exact hcap.1
      have hlen := wqu hR hrb
      have hsl : (slotsOf b.cells a.off ((n + 1) * size)).length = (n + 1) * size := by simp [slotsOf]; omega
      have hcells : ∀ j, j < (n + 1) * size → ∃ x x', (slotsOf b.cells a.off ((n + 1) * size))[j]? = some x ∧ w.cell? ⟨l.block, a.off + j, none⟩ = some x' ∧ VR ρ x x' := by
        intro j hj
        obtain ⟨x, x', h1, h2, h3⟩ := wes hR hrb g1 j hj
        refine ⟨x, x', ?_, h2, h3⟩
        simp only [slotsOf, List.getElem?_take, List.getElem?_drop, if_pos hj]
        exact h1
      let ws : List Value := (List.range ((n + 1) * size)).map fun j => (w.cell? ⟨l.block, a.off + j, none⟩).getD undef
      have hws : VRL ρ (slotsOf b.cells a.off ((n + 1) * size)) ws := by
        refine ⟨by simp [ws, hsl], ?_⟩
        intro i x x' e e'
        have hi : i < (n + 1) * size := by rw [← hsl]; exact wti e
        obtain ⟨y, y', h1, h2, h3⟩ := hcells i hi
        rw [h1] at e
        cases e
        simp only [ws, List.getElem?_map, List.getElem?_range hi, Option.map_some, h2, Option.getD_some, Option.some.injEq] at e'
        subst e'
        exact h3
      have key : ∀ cs f, VRL (ρ.frz H w f) cs ws → wvi f → wac cs = true → whc a.block = true → wvi ((a.block, a.off + (n + 1) * size) :: f) ∧ VR (ρ.frz H w ((a.block, a.off + (n + 1) * size) :: f)) (FL (n + 1) cs) v' := by
        intro cs f hcs hf hno hk
        refine ⟨fun p hp => ?_, ?_⟩
        · simp only [List.mem_cons] at hp
          rcases hp with rfl | hp
          · exact hk
          · exact hf p hp
        · rw [g2]
          have hcl : cs.length = (n + 1) * size := by have := hcs.1; simpa [ws] using this
          refine VR.list (a' := ⟨l.block, a.off, none⟩) hle (fun j => (w.cell? ⟨l.block, a.off + j, none⟩).getD undef) (fun i hi => ?_) (fun i x e => ?_)
          · obtain ⟨y, y', h1, h2, h3⟩ := hcells i (by omega)
            rw [h2]
            exact frz_get hR ⟨(a.block, a.off + (n + 1) * size), List.mem_cons_self, aver a, l, b, g1, rfl, by simp only; omega, hb⟩ h2
          · obtain ⟨x', e1, e2⟩ := hcs.get e
            have hi := wti e
            have e3 : (w.cell? ⟨l.block, a.off + i, none⟩).getD undef = x' := by
              simp only [ws, List.getElem?_map, List.getElem?_range (show i < (n + 1) * size by omega), Option.map_some, Option.some.injEq] at e1
              exact e1
            rw [e3]
            exact VR.reloc (ρ2 := (ρ.frz H w ((a.block, a.off + (n + 1) * size) :: f)).noloc) (wjr (fun p hp => List.mem_cons_of_mem _ hp)).cell e2 ((wsf _).1 hno x (List.mem_of_getElem? e))
      cases hp : b.pf with
      | true =>
        simp only [hp, cond_true] at h
        cases hq2 : (wac (slotsOf b.cells a.off ((n + 1) * size)) && whc a.block) with
        | false => rw [hq2, cond_false] at h; cases h
        | true =>
          rw [hq2, cond_true] at h
          cases h
          simp only [Bool.and_eq_true] at hq2
          exact key _ [] (hws.mono (wwl ρ H w [])) (fun p hp => by simp at hp) hq2.1 hq2.2
      | false =>
        simp only [hp, cond_false] at h
        cases hs : sl (slotsOf b.cells a.off ((n + 1) * size)) with
        | none => rw [hs] at h; cases h
        | some r =>
          obtain ⟨cs, f⟩ := r
          rw [hs] at h
          simp only at h
          cases hq2 : (wac cs && whc a.block) with
          | false => rw [hq2, cond_false] at h; cases h
          | true =>
            rw [hq2, cond_true] at h
            cases h
            simp only [Bool.and_eq_true] at hq2
            obtain ⟨k1, k2⟩ := ih _ _ hws cs f hs
            exact key cs f k2 k1 hq2.1 hq2.2
  · cases h
theorem wje : wvi [] := fun p hp => by simp at hp
theorem seal_v {ρ : Ren} {B : Nat} {H : AH} {w : World} (hR : Rel ρ B H w) {sl : List Value → Option (List Value × Frs)} (ih : ∀ l l', VRL ρ l l' → wkub ρ H w (sl l) l') {v v' u : Value} {fr : Frs} (hv : VR ρ v v') (h : wle P H sl v = some (u, fr)) : wvi fr ∧ VR (ρ.frz H w fr) u v' := by
  have same : ∀ (x : Value) (f : Frs), VR ρ x v' → some (x, ([] : Frs)) = some (u, f) → wvi f ∧ VR (ρ.frz H w f) u v' := by
    intro x f hx he
    cases he
    exact ⟨wje, hx.mono (wwl ρ H w [])⟩
  unfold wle at h
  split at h
  · cases h
    rw [hv.of_flat rfl]
    exact ⟨wje, .listNo⟩
  · cases h
    obtain ⟨a', c', rfl⟩ := hv.slice_len
    exact ⟨wje, .listNo⟩
  · exact seal_row hR ih hv h
  · rename_i cs
    obtain ⟨cs', rfl, h2⟩ := hv.agg_inv
    split at h
    · rename_i l f hs
      cases h
      obtain ⟨k1, k2⟩ := ih _ _ h2 _ _ hs
      exact ⟨k1, .agg_mk k2⟩
    · cases h
  · rename_i cs
    obtain ⟨cs', rfl, h2⟩ := hv.tuple_inv
    split at h
    · rename_i l f hs
      cases h
      obtain ⟨k1, k2⟩ := ih _ _ h2 _ _ hs
      exact ⟨k1, .tuple_mk k2⟩
    · cases h
  · rename_i t v
    have hi : ∃ x', v' = .iface t x' ∧ VR ρ v x' := by
      cases hv with
      | flat hf => simp only [Go.Den.flat] at hf; exact ⟨v, rfl, .flat hf⟩
      | iface h => exact ⟨_, rfl, h⟩
    obtain ⟨x', rfl, h2⟩ := hi
    split at h
    · rename_i u' f hs
      cases h
      obtain ⟨k1, k2⟩ := ih _ _ (.cons h2 (.nil ρ)) _ _ hs
      obtain ⟨_, _, e, k3, _⟩ := k2.uncons
      cases e
      exact ⟨k1, .iface k3⟩
    · cases h
  · rename_i n cs t
    cases h
    obtain ⟨l, f, h1, h2, h3, h4, h5, h6⟩ := hv.own_inv
    rw [h4]
    exact ⟨wje, (VR.list (a' := ⟨l.block, 0, none⟩) h2 f (fun i hi => by rw [Nat.zero_add]; exact h5 i hi) h6).mono (wwl ρ H w [])⟩
  · rename_i g f c
    obtain ⟨f', c', rfl, _, h2, h3⟩ := hv.func_inv rfl
    split at h
    · rename_i a p b q hs1 hs2
      cases h
      obtain ⟨k1, k2⟩ := ih _ _ h2 _ _ hs1
      obtain ⟨k3, k4⟩ := ih _ _ h3 _ _ hs2
      refine ⟨fun x hx => ?_, .func_mk rfl (k2.mono (wjr fun x hx => by simp [hx])) (k4.mono (wjr fun x hx => by simp [hx]))⟩
      simp only [List.mem_append] at hx
      rcases hx with hx | hx
      · exact k1 x hx
      · exact k3 x hx
    · cases h
  · exact same _ _ hv h
theorem wlub {ρ : Ren} {B : Nat} {H : AH} {w : World} (hR : Rel ρ B H w) : ∀ (d : Nat) (l l' : List Value), VRL ρ l l' → wkub ρ H w (wkg P H d l) l' := by
  intro d
  induction d with
  | zero => intro l l' _ l2 fr h; cases h
  | succ d ih =>
    intro l
    induction l with
    | nil =>
      intro l' hl l2 fr h
      cases h
      rw [hl.unnil]
      exact ⟨wje, .nil _⟩
    | cons v l ihl =>
      intro l' hl l2 fr h
      obtain ⟨v', r', rfl, h1, h2⟩ := hl.uncons
      have e : wkg P H (d + 1) (v :: l) = wmt (one2 (wle P H (wkg P H d) v)) (wkg P H (d + 1) l) := rfl
      rw [e] at h
      cases hs : wle P H (wkg P H d) v with
      | none => rw [hs] at h; simp [one2, wmt] at h
      | some p =>
        obtain ⟨u, f⟩ := p
        cases hr : wkg P H (d + 1) l with
        | none => rw [hs, hr] at h; simp [one2, wmt] at h
        | some q =>
          obtain ⟨l3, g⟩ := q
          rw [hs, hr] at h
          simp only [one2, wmt, Option.some.injEq, Prod.mk.injEq] at h
          obtain ⟨rfl, rfl⟩ := h
          obtain ⟨k1, k2⟩ := seal_v hR ih h1 hs
          obtain ⟨k3, k4⟩ := ihl r' h2 _ _ hr
          refine ⟨fun x hx => ?_, .cons (k2.mono (wjr fun x hx => by simp [hx])) (k4.mono (wjr fun x hx => by simp [hx]))⟩
          simp only [List.mem_append] at hx
          rcases hx with hx | hx
          · exact k1 x hx
          · exact k3 x hx
theorem wmy (H : AH) (p : Nat × Nat) (l : Frs) : raise H (p :: l) = frz1 (raise H l) p.1 p.2 (wydb p.2 ((raise H l).get p.1)) := rfl
def Froze (b b' : Option ABlk) : Prop := match b, b' with
  | some (.cells c), some (.cells c') => ∃ n, c.frz ≤ n ∧ c' = { c with frz := n }
  | x, y => x = y
theorem Froze.refl (b : Option ABlk) : Froze b b := by
  cases b with
  | none => rfl
  | some b => cases b <;> first | exact ⟨_, Nat.le_refl _, rfl⟩ | rfl
theorem Froze.trans {a b c : Option ABlk} (h : Froze a b) (h' : Froze b c) : Froze a c := by
  cases a with
  | none => cases b with
    | none => exact h'
    | some b => cases h
  | some a => cases b with
    | none => cases a <;> cases h
    | some b => cases c with
      | none => cases b <;> cases h'
      | some c =>
        cases a with
        | cells a => cases b with
          | cells b => cases c with
            | cells c =>
              obtain ⟨n, h1, rfl⟩ := h
              obtain ⟨m, h2, rfl⟩ := h'
              exact ⟨m, Nat.le_trans h1 h2, rfl⟩
            | _ => cases h'
          | _ => cases h
        | map a => cases b with
          | map b => cases h; exact h'
          | _ => cases h
        | tok x y z => cases b with
          | tok x' y' z' => cases h; exact h'
          | _ => cases h
theorem wos {H : AH} (hlow : Low H) : ∀ (l : Frs), wvi l → (raise H l).n = H.n ∧ Low (raise H l) ∧ (∀ id, Froze (H.get id) ((raise H l).get id)) ∧ (∀ id, id ∉ wxm l → (raise H l).get id = H.get id) ∧
    (∀ p ∈ l, ∀ c, (raise H l).get p.1 = some (.cells c) → p.2 ≤ c.frz) := by
  intro l
  induction l with
  | nil => intro _; exact ⟨rfl, hlow, fun id => .refl _, fun _ _ => rfl, fun p hp => by simp at hp⟩
  | cons p l ih =>
    intro hk
    obtain ⟨h1, h2, h3, h4, h5⟩ := ih fun q hq => hk q (by simp [hq])
    have hkp := hk p (by simp)
    rw [wmy]
    cases hg : (raise H l).get p.1 with
    | none =>
      simp only [wydb, frz1]
      refine ⟨h1, h2, h3, fun id hid => h4 id fun h => hid (by simp [wxm] at h ⊢; exact .inr h), fun q hq c hc => ?_⟩
      simp only [List.mem_cons] at hq
      rcases hq with rfl | hq
      · rw [hg] at hc; cases hc
      · exact h5 q hq c hc
    | some b =>
      have hb : ∃ b', wydb p.2 (some b) = some b' ∧ Froze (some b) (some b') ∧ ∀ c, b' = .cells c → p.2 ≤ c.frz := by
        cases b with
        | cells b => exact ⟨_, rfl, ⟨_, Nat.le_max_left _ _, rfl⟩, fun c hc => by cases hc; exact Nat.le_max_right _ _⟩
        | map b => exact ⟨_, rfl, rfl, fun c hc => by cases hc⟩
        | tok x y z => exact ⟨_, rfl, rfl, fun c hc => by cases hc⟩
      obtain ⟨b', hb1, hb2, hb3⟩ := hb
      rw [hb1]
      simp only [frz1]
      have hgs := fun id => AH.get_set (H := raise H l) hkp b' id
      refine ⟨by rw [AH.set_eq]; exact h1, ?_, ?_, ?_, ?_⟩
      · intro id c hc
        rw [hgs] at hc
        rw [AH.set_eq]
        simp only
        split at hc
        · rename_i e; rw [e]; exact h2 _ _ hg
        · exact h2 _ _ hc
      · intro id
        rw [hgs]
        split
        · rename_i e
          rw [e]
          have := h3 p.1
          rw [hg] at this
          exact this.trans hb2
        · exact h3 id
      · intro id hid
        rw [hgs, if_neg (fun e => hid (by simp [wxm, e]))]
        exact h4 id fun h => hid (by simp [wxm] at h ⊢; exact .inr h)
      · intro q hq c hc
        rw [hgs] at hc
        simp only [List.mem_cons] at hq
        split at hc
        · rename_i e
          cases hc
          rcases hq with rfl | hq
          · exact hb3 c rfl
          · have h6 := h5 q hq
            rw [e, hg] at h6
            cases b with
            | cells b =>
              obtain ⟨n, hn, hc2⟩ := hb2
              rw [hc2]
              have := h6 b rfl
              simp only
              omega
            | map b => cases hb2
            | tok x y z => cases hb2
        · rename_i e
          rcases hq with rfl | hq
          · exact absurd rfl e
          · exact h5 q hq c hc
theorem wnv {ρ : Ren} {B : Nat} {H : AH} {w : World} (hR : Rel ρ B H w) {fr : Frs} (hk : wvi fr) : Post ρ B H w (ρ.frz H w fr) (raise H fr) w := by
  obtain ⟨h1, h2, h3, h4, h5⟩ := wos hR.low fr hk
  have hs := wwl ρ H w fr
  have hcells : ∀ id c', (raise H fr).get id = some (.cells c') → ∃ c, H.get id = some (.cells c) ∧ c.frz ≤ c'.frz ∧ c' = { c with frz := c'.frz } := by
    intro id c' hc
    have := h3 id
    rw [hc] at this
    cases hq : H.get id with
    | none => rw [hq] at this; cases this
    | some b =>
      rw [hq] at this
      cases b with
      | cells c => obtain ⟨n, hn, rfl⟩ := this; exact ⟨c, rfl, hn, rfl⟩
      | map b => cases this
      | tok x y z => cases this
  have hother : ∀ id b, (raise H fr).get id = some b → (∀ c, b ≠ .cells c) → H.get id = some b := by
    intro id b hb hne
    have := h3 id
    rw [hb] at this
    cases hq : H.get id with
    | none => rw [hq] at this; cases this
    | some b0 =>
      rw [hq] at this
      cases b0 with
      | cells c => cases b with
        | cells c' => exact absurd rfl (hne c')
        | _ => cases this
      | map x => cases this; rfl
      | tok x y z => cases this; rfl
  have hsome : ∀ id, ((raise H fr).get id).isSome = (H.get id).isSome := by
    intro id
    have := h3 id
    cases hq : H.get id with
    | none => rw [hq] at this; cases hq2 : (raise H fr).get id with
      | none => rfl
      | some b => rw [hq2] at this; cases this
    | some b => rw [hq] at this; cases hq2 : (raise H fr).get id with
      | none => rw [hq2] at this; cases b <;> cases this
      | some b' => rfl
  refine ⟨⟨?_, ?_, h2, hR.sep, hR.bnd, hR.base, ⟨?_, ?_⟩⟩, ⟨hs, Nat.le_refl _, fun _ _ _ => rfl, ?_, ?_, by rw [h1]; exact Nat.le_refl _, ?_, ?_, ⟨rfl, rfl⟩, ?_⟩⟩
  · intro id ver l b hl hb
    cases b with
    | cells c' =>
      obtain ⟨c, g1, g2, g3⟩ := hcells id c' hb
      obtain ⟨q1, q2⟩ := hR.blk id ver l _ hl g1
      rw [g3]
      refine ⟨q1, fun hv => ?_⟩
      have hC := q2 hv
      obtain ⟨n, s1, s2, s3, s4⟩ := hC.shape
      refine ⟨⟨n, s1, s2, s3, fun i hi hn => s4 i (Nat.le_trans g2 hi) hn⟩, ?_, hC.esz, fun hm => Nat.le_trans (hC.hi hm) g2⟩
      intro i v hi hv2
      obtain ⟨v', k1, k2⟩ := hC.vals i v hi hv2
      exact ⟨v', k1, k2.mono hs⟩
    | map es => exact (hR.blk id ver l _ hl (hother id _ hb fun c h => by cases h)).keep hs rfl
    | tok x y z => exact (hR.blk id ver l _ hl (hother id _ hb fun c h => by cases h)).keep hs rfl
  · intro id c' hc
    obtain ⟨c, g1, g2, g3⟩ := hcells id c' hc
    have := hR.wf id c g1
    rw [g3]
    exact ⟨this.lens, this.wver, this.pf⟩
  · intro b i v hv
    rcases wau hv with h | ⟨_, h⟩
    · exact hR.fz.cell _ _ _ h
    · exact h
  · intro id ver l i v b hl hv hb
    rcases wau hv with h | ⟨⟨p, q1, ver0, l0, c, q2, q3, q4, q5⟩, _⟩
    · cases b with
      | cells c' =>
        obtain ⟨c, g1, g2, g3⟩ := hcells id c' hb
        have := hR.fz.sep id ver l i v _ hl h g1
        exact Nat.lt_of_lt_of_le this g2
      | map es => exact hR.fz.sep id ver l i v _ hl h (hother id _ hb fun c h => by cases h)
      | tok x y z => exact hR.fz.sep id ver l i v _ hl h (hother id _ hb fun c h => by cases h)
    · have hid := hR.sep _ _ _ _ _ _ q2 hl q3
      subst hid
      cases b with
      | cells c' => exact Nat.lt_of_lt_of_le q4 (h5 p q1 c' hb)
      | map es => have := hother _ _ hb (fun c h => by cases h); rw [q5] at this; cases this
      | tok x y z => have := hother _ _ hb (fun c h => by cases h); rw [q5] at this; cases this
  · intro id ver l h h'
    have h : ρ id ver = some l := h
    rw [h'] at h; cases h
  · intro id ver l h h'
    have h : ρ id ver = some l := h
    rw [h'] at h; cases h
  · intro id h; rw [hsome]; exact h
  · intro id h; rw [hsome] at h; exact .inl h
  · intro b i v hv
    rcases wau hv with h | ⟨⟨p, q1, ver0, l0, c, q2, q3, q4, q5⟩, _⟩
    · exact .inl h
    · exact .inr (.inr ⟨p.1, ver0, l0, by rw [q5]; rfl, q2, q3⟩)
end
end Go.Den
namespace Go.Den
noncomputable section
variable {P : Program}
structure Ext2 (p : Nat) (ρ : Ren) (H : AH) (w : World) (ρ' : Ren) (H' : AH) (w' : World) : Prop where
  pin : ∀ id ver l, id < p → ρ id ver = some l → ρ' id ver = some l
  cell : ∀ b i v, ρ.cell b i = some v → ρ'.cell b i = some v
  size : w.heap.size ≤ w'.heap.size
  frame : ∀ b : Nat, b < w.heap.size → (∀ id ver l, ρ id ver = some l → l.block ≠ b) → w'.heap[b]? = w.heap[b]?
  fresh : ∀ id ver l, ρ' id ver = some l → w.heap.size ≤ l.block ∨ ∃ id0 ver0 l0, ρ id0 ver0 = some l0 ∧ l0.block = l.block
  dom : ∀ id ver l, id < p → ρ' id ver = some l → ∃ ver0 l0, ρ id ver0 = some l0
  same : w'.os = w.os ∧ w'.output = w.output
  cells : ∀ b i v, ρ'.cell b i = some v → ρ.cell b i = some v ∨ w.heap.size ≤ b ∨ ∃ id ver l, ρ id ver = some l ∧ l.block = b
  keep : ∀ id, id < p → (H.get id).isSome = true → (H'.get id).isSome = true
theorem Ext2.refl (p : Nat) (ρ : Ren) (H : AH) (w : World) : Ext2 p ρ H w ρ H w :=
  ⟨fun _ _ _ _ h => h, fun _ _ _ h => h, Nat.le_refl _, fun _ _ _ => rfl, fun id ver l h => .inr ⟨id, ver, l, h, rfl⟩, fun id ver l _ h => ⟨ver, l, h⟩, ⟨rfl, rfl⟩, fun _ _ _ h => .inl h, fun _ _ h => h⟩
theorem Ext2.trans {p : Nat} {ρ ρ1 ρ2 : Ren} {H H1 H2 : AH} {w w1 w2 : World} (h : Ext2 p ρ H w ρ1 H1 w1) (h' : Ext2 p ρ1 H1 w1 ρ2 H2 w2) : Ext2 p ρ H w ρ2 H2 w2 := by
  refine ⟨fun id ver l hp e => h'.pin id ver l hp (h.pin id ver l hp e), fun b i v e => h'.cell b i v (h.cell b i v e), Nat.le_trans h.size h'.size, ?_, ?_, ?_, ⟨h'.same.1.trans h.same.1, h'.same.2.trans h.same.2⟩, ?_, fun id hp e => h'.keep id hp (h.keep id hp e)⟩
  · intro b hb himg
    rw [h'.frame b (Nat.lt_of_lt_of_le hb h.size) ?_, h.frame b hb himg]
    intro id ver l hl e
    rcases h.fresh id ver l hl with h1 | ⟨id0, ver0, l0, h1, h2⟩
    · omega
    · exact himg id0 ver0 l0 h1 (h2.trans e)
  · intro id ver l hl
    rcases h'.fresh id ver l hl with h1 | ⟨id0, ver0, l0, h1, h2⟩
    · exact .inl (Nat.le_trans h.size h1)
    · rcases h.fresh id0 ver0 l0 h1 with h3 | ⟨id1, ver1, l1, h3, h4⟩
      · exact .inl (by omega)
      · exact .inr ⟨id1, ver1, l1, h3, h4.trans h2⟩
  · intro id ver l hp hl
    obtain ⟨ver0, l0, h1⟩ := h'.dom id ver l hp hl
    exact h.dom id ver0 l0 hp h1
  · intro b i v hv
    rcases h'.cells b i v hv with h1 | h1 | ⟨id, ver, l, h1, h2⟩
    · exact h.cells b i v h1
    · exact .inr (.inl (Nat.le_trans h.size h1))
    · rcases h.fresh id ver l h1 with h3 | ⟨id0, ver0, l0, h3, h4⟩
      · exact .inr (.inl (by omega))
      · exact .inr (.inr ⟨id0, ver0, l0, h3, h4.trans h2⟩)
theorem Ext.weak {p : Nat} {ρ ρ' : Ren} {H H' : AH} {w w' : World} (h : Ext ρ H w ρ' H' w') (hp : p ≤ H.n) : Ext2 p ρ H w ρ' H' w' := by
  refine ⟨fun id ver l _ e => h.sub id ver l e, h.sub.cell, h.size, fun b hb himg => h.frame b hb fun id ver l _ e => himg id ver l e, ?_, ?_, h.same, ?_, fun id _ e => h.keep id e⟩
  · intro id ver l hl
    cases hq : ρ id ver with
    | some l0 =>
      have := h.sub id ver l0 hq
      rw [hl] at this
      cases this
      exact .inr ⟨id, ver, l, hq, rfl⟩
    | none =>
      rcases h.fresh id ver l hl hq with h1 | ⟨ver0, l0, _, h2, h3⟩
      · exact .inl h1
      · exact .inr ⟨id, ver0, l0, h2, h3⟩
  · intro id ver l hid hl
    cases hq : ρ id ver with
    | some l0 => exact ⟨ver, l0, hq⟩
    | none =>
      rcases h.dom id ver l hl hq with ⟨h1, _⟩ | ⟨_, h1⟩
      · omega
      · exact h1
  · intro b i v hv
    rcases h.cells b i v hv with h1 | h1 | ⟨id, ver, l, _, h2, h3⟩
    · exact .inl h1
    · exact .inr (.inl h1)
    · exact .inr (.inr ⟨id, ver, l, h2, h3⟩)
theorem Bd.next {ρ ρ' : Ren} {H H' : AH} {w w' : World} (h : Bd ρ H) (hlow : Low H) (he : Ext ρ H w ρ' H' w') : Bd ρ' H' := by
  intro id ver hid
  cases hq : ρ' id ver with
  | none => rfl
  | some l =>
    exfalso
    have hn := he.n
    rcases he.dom id ver l hq (h id ver (by omega)) with ⟨_, h1⟩ | ⟨h1, _⟩
    · omega
    · obtain ⟨b, hb⟩ := Option.isSome_iff_exists.1 h1
      have := hlow id b hb
      omega
def wxab (P : Program) (G : Nat → Option (List Value)) (f : FuncId) (args : List Value) (H : AH) (v : Value) (H' : AH) : Prop := H.n ≤ H'.n ∧
  ∀ (ρ : Ren) (B : Nat) (w : World) (args' : Array Value), Rel ρ B H w → GOK G ρ → Bd ρ H → VRL ρ args args'.toList →
    Calls P f args' w fun e w' => ∃ ρ' v', e = .returned v' ∧ VR ρ' v v' ∧ Rel ρ' B H' w' ∧ Bd ρ' H' ∧ Ext2 H.n ρ H w ρ' H' w'
theorem getN_get : ∀ (L : List Nat) (k n : Nat), L[k]? = some n → getN L k = n := by
  intro L
  induction L with
  | nil => intro k n h; simp at h
  | cons a L ih =>
    intro k n h
    cases k with
    | zero => simp at h; exact h
    | succ k => exact ih k n (by simpa using h)
theorem wny (n : Nat) : (zeros n).length = n ∧ ∀ x ∈ zeros n, x = 0 := by
  induction n with
  | zero => exact ⟨rfl, fun x h => by have h : x ∈ ([] : List Nat) := h; simp at h⟩
  | succ n ih =>
    refine ⟨by show (0 :: zeros n).length = _; simp [ih.1], fun x h => ?_⟩
    have h : x ∈ (0 :: zeros n) := h
    simp only [List.mem_cons] at h
    rcases h with rfl | h
    · rfl
    · exact ih.2 x h
theorem wapb (H : AH) : ∀ (cs : List (Nat × Bool)) (k : Nat) (c : Nat × Bool), cs[k]? = some c → getN (wij H cs) k = if c.2 then wvf (H.get c.1) else 0 := by
  intro cs
  induction cs with
  | nil => intro k c h; simp at h
  | cons a cs ih =>
    intro k c h
    cases k with
    | zero =>
      simp at h
      subst h
      show (bif a.2 then wvf (H.get a.1) else 0) = _
      cases a.2 <;> rfl
    | succ k => exact ih k c (by simpa using h)
theorem wbpb (m : Nm) (H1 Hc : AH) : ∀ (cs : List (Nat × Bool)) (ix : Nat) (H : AH), Low H → (∀ c ∈ cs, whc c.1 = true ∧ c.1 < H.n) → (∀ {i j : Nat} {x y : Nat × Bool}, cs[i]? = some x → cs[j]? = some y → x.1 = y.1 → i = j) → (∀ j, j < cs.length → (Hc.get (ix + j)).isSome = true) →
    (wfk m H1 Hc cs ix H).n = H.n ∧ Low (wfk m H1 Hc cs ix H) ∧ (∀ id, (∀ c ∈ cs, c.1 ≠ id) → (wfk m H1 Hc cs ix H).get id = H.get id) ∧
    ∀ (j : Nat) (c : Nat × Bool), cs[j]? = some c → (wfk m H1 Hc cs ix H).get c.1 = weh m c.2 (wvf (H1.get c.1)) (wvob (H1.get c.1)) (Hc.get (ix + j)) := by
  intro cs
  induction cs with
  | nil => intro ix H hl _ _ _; exact ⟨rfl, hl, fun _ _ => rfl, fun j c h => by simp at h⟩
  | cons a cs ih =>
    intro ix H hl hk hu hs
    have hka := hk a (by simp)
    have h0 := hs 0 (by simp)
    obtain ⟨b0, hb0⟩ := Option.isSome_iff_exists.1 h0
    rw [Nat.add_zero] at hb0
    have hbb : ∃ b, weh m a.2 (wvf (H1.get a.1)) (wvob (H1.get a.1)) (Hc.get ix) = some b := by
      rw [hb0]
      cases b0 with
      | cells b => simp only [weh]; cases a.2 <;> exact ⟨_, rfl⟩
      | map es => exact ⟨_, rfl⟩
      | tok x y z => exact ⟨_, rfl⟩
    obtain ⟨bb, hbb⟩ := hbb
    have e : wfk m H1 Hc (a :: cs) ix H = wfk m H1 Hc cs (ix + 1) (H.set a.1 bb) := by
      show wfk m H1 Hc cs (ix + 1) (setO H a.1 (weh m a.2 (wvf (H1.get a.1)) (wvob (H1.get a.1)) (Hc.get ix))) = _
      rw [hbb]
      rfl
    have hg := fun id => AH.get_set (H := H) hka.1 bb id
    have hn : (H.set a.1 bb).n = H.n := by rw [AH.set_eq]
    have hl' : Low (H.set a.1 bb) := by
      intro id c hc
      rw [hg] at hc
      rw [hn]
      split at hc
      · rename_i e; rw [e]; exact hka.2
      · exact hl id c hc
    obtain ⟨h1, h2, h3, h4⟩ := ih (ix + 1) (H.set a.1 bb) hl' (fun c hc => by rw [hn]; exact hk c (by simp [hc])) (fun {i j x y} p q r => by
      have := hu (i := i + 1) (j := j + 1) (by simpa using p) (by simpa using q) r
      omega) (fun j hj => by have := hs (j + 1) (by simp; omega); rw [show ix + 1 + j = ix + (j + 1) by omega]; exact this)
    rw [e]
    refine ⟨h1.trans hn, h2, fun id hid => ?_, fun j c hc => ?_⟩
    · rw [h3 id fun c hc => hid c (by simp [hc]), hg, if_neg (fun e => hid a (by simp) e.symm)]
    · cases j with
      | zero =>
        simp at hc
        subst hc
        rw [h3 a.1 ?_, hg, if_pos rfl, Nat.add_zero]
        · exact hbb.symm
        · intro c hc e2
          obtain ⟨i, hi, hci⟩ := List.getElem_of_mem hc
          have := hu (i := i + 1) (j := 0) (x := c) (y := a) (by simp [hi, hci]) rfl e2
          omega
      | succ j =>
        rw [h4 j c (by simpa using hc), show ix + 1 + j = ix + (j + 1) by omega]
theorem wjeb (m : Nm) (Hc : AH) : ∀ (d k : Nat) (H : AH), whc (H.n + d) = true → Low H →
    (news m Hc k d H).n = H.n + d ∧ Low (news m Hc k d H) ∧ (∀ id, id < H.n → (news m Hc k d H).get id = H.get id) ∧ ∀ j, j < d → (news m Hc k d H).get (H.n + j) = weh m false 0 0 (Hc.get (k + j)) := by
  intro d
  induction d with
  | zero => intro k H _ hl; exact ⟨rfl, hl, fun _ _ => rfl, fun j h => by omega⟩
  | succ d ih =>
    intro k H hk hl
    have hk' : whc H.n = true := woi hk (by omega)
    have e : news m Hc k (d + 1) H = news m Hc (k + 1) d (addO H (weh m false 0 0 (Hc.get k))) := rfl
    have hg := fun id => wtab hk' hl (weh m false 0 0 (Hc.get k)) id
    have hn := whv H (weh m false 0 0 (Hc.get k))
    obtain ⟨h1, h2, h3, h4⟩ := ih (k + 1) (addO H (weh m false 0 0 (Hc.get k))) (by rw [hn, show H.n + 1 + d = H.n + (d + 1) by omega]; exact hk) (wxlb hk' hl _)
    rw [e]
    refine ⟨by rw [h1, hn]; omega, h2, fun id hid => ?_, fun j hj => ?_⟩
    · rw [h3 id (by omega), hg, if_neg (by omega)]
    · cases j with
      | zero =>
        have h5 := hg H.n
        rw [if_pos rfl] at h5
        have h6 := h3 H.n (by omega)
        rw [h5] at h6
        exact h6
      | succ j =>
        have := h4 j (by omega)
        rw [hn] at this
        rw [show H.n + (j + 1) = H.n + 1 + j by omega, this, show k + 1 + j = k + (j + 1) by omega]
def merged (ρ ρc' : Ren) (H1 : AH) (L : List Nat) (cs : List (Nat × Bool)) (n3 : Nat) : Ren :=
  ⟨fun id ver => if id < H1.n then (if id ∈ L then (if wjf id cs = true then (if ver < wvf (H1.get id) then ρ id ver else ρc' (idxOf id L 0) (ver - wvf (H1.get id))) else ρc' (idxOf id L 0) ver) else ρ id ver)
    else if id < n3 then ρc' (L.length + (id - H1.n)) ver else ρ id ver, ρc'.cell⟩
theorem merge_ok {ρ : Ren} {B : Nat} {H1 : AH} {w : World} (hR : Rel ρ B H1 w) {vs : List Value} {N : Nrm} (hN : wte H1 0 vs = some N) {v : Value} {Hc : AH} {fr : Frs} {v2 : Value} {nb : Option ABlk} {eff : Bool} {H3 : AH} {wr : List Nat}
    (hm : wjj H1 fr N.L (wme H1 (wvd vs ++ wyb H1 N.L) 0 N.L 0) v Hc = .did v2 nb eff H3 wr) :
    nb = none ∧ eff = true ∧ wr = changed H1 H3 N.L ++ wxm fr ∧ H1.n ≤ H3.n ∧ (∀ id, id ∉ N.L → id < H1.n → H3.get id = H1.get id) ∧
    ∀ {w' : World} {ρc' : Ren} {v' : Value}, Free ρ H1.n H3.n → VR ρc' v v' → Rel ρc' B Hc w' → Bd ρc' Hc → Ext2 N.H.n (turned ρ H1 N.L (wme H1 (wvd vs ++ wyb H1 N.L) 0 N.L 0)) N.H w ρc' Hc w' →
      ∃ ρ', VR ρ' v2 v' ∧ Post ρ B H1 w ρ' H3 w' := by
  obtain ⟨hRc, hBc, hNn, _, hnd, hall, hNs, hNk, _, _, hcmp, hopen⟩ := wyp hN hR
  generalize hcs : wme H1 (wvd vs ++ wyb H1 N.L) 0 N.L 0 = cs at *
  generalize hLL : N.L = L at *
  have hcl : cs.length = L.length ∧ ∀ (j : Nat) (id : Nat), L[j]? = some id → cs[j]? = some (id, wjf id cs) := by
    have := wul H1 (wvd vs ++ wyb H1 L) 0 L 0
    rw [hcs] at this
    refine ⟨this.1, fun j id h => ?_⟩
    rw [this.2 j id h, hcmp j id h, Nat.zero_add]
  have hcu : ∀ {i j : Nat} {x y : Nat × Bool}, cs[i]? = some x → cs[j]? = some y → x.1 = y.1 → i = j := by
    intro i j x y h1 h2 h3
    have hi : i < L.length := by rw [← hcl.1]; exact wti h1
    have hj : j < L.length := by rw [← hcl.1]; exact wti h2
    have g1 := hcl.2 i _ (List.getElem?_eq_getElem hi)
    have g2 := hcl.2 j _ (List.getElem?_eq_getElem hj)
    rw [h1] at g1
    rw [h2] at g2
    cases g1; cases g2
    simp only at h3
    exact wko hnd (n := L[i]) (List.getElem?_eq_getElem hi) (by rw [h3]; exact List.getElem?_eq_getElem hj)
  unfold wjj at hm
  cases hq : (wdv L && (Nat.ble L.length Hc.n && (whc (H1.n + Hc.n) && (wev L.length (wij H1 cs) (toks v ++ wtl Hc Hc.n 0) && (wsl Hc cs 0 && hasAll Hc (upto L.length)))))) with
  | false => rw [hq, cond_false] at hm; cases hm
  | true =>
  rw [hq, cond_true] at hm
  simp only [Bool.and_eq_true, Nat.ble_eq] at hq
  obtain ⟨hkeys, hle, hkey, htops, hbacks, hthere⟩ := hq
  generalize hmm : wpn H1.n L.length L (wij H1 cs) = m at hm
  cases hm
  have hkeyL : ∀ id ∈ L, whc id = true := by unfold wdv at hkeys; exact weg hkeys
  have hltL : ∀ id ∈ L, id < H1.n := fun id hi => by
    obtain ⟨b, hb⟩ := wwf hall id hi
    exact hR.low id b hb
  have hHcs : ∀ j, j < cs.length → True := fun _ _ => trivial
  refine ⟨rfl, rfl, rfl, ?_⟩
  have hplace : ∀ {id : Nat}, id ∈ L → L[idxOf id L 0]? = some id := by
    intro id hi
    obtain ⟨j, h1, h2⟩ := wky id L 0 hi
    rw [h1, Nat.zero_add]; exact h2
  have hplace' : ∀ {ix id : Nat}, L[ix]? = some id → idxOf id L 0 = ix := fun {ix id} h => wko hnd (hplace (List.mem_of_getElem? h)) h
  have hlow1 := hR.low
  have hsomes : ∀ j, j < cs.length → (Hc.get (0 + j)).isSome = true := by
    intro j hj
    rw [hcl.1] at hj
    obtain ⟨b, hb⟩ := wwf hthere j (by
      have : ∀ n j, j < n → j ∈ upto n := by
        intro n
        induction n with
        | zero => intro j h; omega
        | succ n ih =>
          intro j h
          show j ∈ upto n ++ [n]
          by_cases h2 : j = n
          · subst h2; simp
          · exact List.mem_append.2 (.inl (ih j (by omega)))
      exact this _ _ hj)
    rw [Nat.zero_add, hb]; rfl
  · obtain ⟨b1, b2, b3, b4⟩ := wbpb m H1 Hc cs 0 H1 hlow1 (fun c hc => by
        obtain ⟨i, hi, hci⟩ := List.getElem_of_mem hc
        have hi' : i < L.length := by rw [← hcl.1]; exact hi
        have := hcl.2 i _ (List.getElem?_eq_getElem hi')
        rw [List.getElem?_eq_getElem hi, hci] at this
        cases this
        exact ⟨hkeyL _ (List.getElem_mem hi'), hltL _ (List.getElem_mem hi')⟩) hcu hsomes
    generalize hH2 : wfk m H1 Hc cs 0 H1 = H2 at *
    obtain ⟨n1, n2, n3, n4⟩ := wjeb m Hc (Hc.n - L.length) L.length H2 (by rw [b1]; exact woi hkey (by omega)) b2
    generalize hH3 : news m Hc L.length (Hc.n - L.length) H2 = H3 at *
    have hn3 : H3.n = H1.n + (Hc.n - L.length) := by rw [n1, b1]
    have hnotin : ∀ id, id ∉ L → ∀ c ∈ cs, c.1 ≠ id := by
      intro id hid c hc e
      obtain ⟨i, hi, hci⟩ := List.getElem_of_mem hc
      have hi' : i < L.length := by rw [← hcl.1]; exact hi
      have := hcl.2 i _ (List.getElem?_eq_getElem hi')
      rw [List.getElem?_eq_getElem hi, hci] at this
      cases this
      exact hid (by rw [← e]; exact List.getElem_mem hi')
    have gOld : ∀ id, id ∉ L → id < H1.n → H3.get id = H1.get id := fun id h1 h2 => by rw [n3 id (by rw [b1]; exact h2), b3 id (hnotin id h1)]
    have gL : ∀ (ix id : Nat), L[ix]? = some id → H3.get id = weh m (wjf id cs) (wvf (H1.get id)) (wvob (H1.get id)) (Hc.get ix) := by
      intro ix id hi
      rw [n3 id (by rw [b1]; exact hltL id (List.mem_of_getElem? hi)), b4 ix _ (hcl.2 ix id hi), Nat.zero_add]
    have gNew : ∀ j, j < Hc.n - L.length → H3.get (H1.n + j) = weh m false 0 0 (Hc.get (L.length + j)) := by
      intro j hj
      have := n4 j hj
      rw [b1] at this
      exact this
    refine ⟨by omega, gOld, ?_⟩
    intro w' ρc' v' hfree hv hRc' hBc' hE
    rw [hNn] at hE
    have hρc : ∀ {ix ver : Nat} {l : Loc}, turned ρ H1 L cs ix ver = some l → ∃ id, L[ix]? = some id ∧ ((wjf id cs = true ∧ ver = 0 ∧ ρ id (wvf (H1.get id)) = some l) ∨ (wjf id cs = false ∧ ρ id ver = some l)) := by
      intro ix ver l hl
      simp only [turned] at hl
      cases hx : L[ix]? with
      | none => rw [hx] at hl; cases hl
      | some id =>
        rw [hx] at hl
        simp only at hl
        refine ⟨id, rfl, ?_⟩
        cases hc : wjf id cs with
        | false => rw [hc, cond_false] at hl; exact .inr ⟨rfl, hl⟩
        | true =>
          rw [hc, cond_true] at hl
          split at hl
          · rename_i h0; exact .inl ⟨rfl, h0, hl⟩
          · cases hl
    have hρ1 : ∀ {ix ver : Nat} {l : Loc}, turned ρ H1 L cs ix ver = some l → ∃ id ver0, L[ix]? = some id ∧ ρ id ver0 = some l := by
      intro ix ver l hl
      obtain ⟨id, h1, h2⟩ := hρc hl
      rcases h2 with ⟨_, _, h⟩ | ⟨_, h⟩ <;> exact ⟨id, _, h1, h⟩
    have htop : ∀ {id : Nat}, id ∈ L → wjf id cs = true → ∃ b, H1.get id = some (.cells b) ∧ b.lens ≠ [] := fun {id} hi hc => (hopen _ _ (hplace hi) hc).2
    have hvers : ∀ {id ver : Nat} {l : Loc}, id ∈ L → wjf id cs = true → ρ id ver = some l → ver ≤ wvf (H1.get id) := by
      intro id ver l hi hc hl
      obtain ⟨b, hb, _⟩ := htop hi hc
      rw [hb]
      exact (hR.blk _ _ _ _ hl hb).1
    let ρ' := merged ρ ρc' H1 L cs H3.n
    have e1 : ∀ {id ver : Nat}, id < H1.n → id ∉ L → ρ' id ver = ρ id ver := by
      intro id ver h1 h2
      show (if id < H1.n then _ else _) = _
      rw [if_pos h1, if_neg h2]
    have e2 : ∀ {ix id ver : Nat}, L[ix]? = some id → wjf id cs = false → ρ' id ver = ρc' ix ver := by
      intro ix id ver h1 h2
      have hi := List.mem_of_getElem? h1
      show (if id < H1.n then _ else _) = _
      rw [if_pos (hltL id hi), if_pos hi, if_neg (by rw [h2]; simp), hplace' h1]
    have e3 : ∀ {ix id s : Nat}, L[ix]? = some id → wjf id cs = true → ρ' id (wvf (H1.get id) + s) = ρc' ix s := by
      intro ix id s h1 h2
      have hi := List.mem_of_getElem? h1
      show (if id < H1.n then _ else _) = _
      rw [if_pos (hltL id hi), if_pos hi, if_pos h2, if_neg (by omega), hplace' h1, Nat.add_sub_cancel_left]
    have e4 : ∀ {id ver : Nat}, id ∈ L → wjf id cs = true → ver < wvf (H1.get id) → ρ' id ver = ρ id ver := by
      intro id ver h1 h2 h3
      show (if id < H1.n then _ else _) = _
      rw [if_pos (hltL id h1), if_pos h1, if_pos h2, if_pos h3]
    have e5 : ∀ {j ver : Nat}, j < Hc.n - L.length → ρ' (H1.n + j) ver = ρc' (L.length + j) ver := by
      intro j ver h1
      show (if H1.n + j < H1.n then _ else if H1.n + j < H3.n then ρc' (L.length + (H1.n + j - H1.n)) ver else _) = _
      rw [if_neg (by omega), if_pos (by omega), Nat.add_sub_cancel_left]
    have e6 : ∀ {id ver : Nat}, H3.n ≤ id → ρ' id ver = ρ id ver := by
      intro id ver h1
      show (if id < H1.n then _ else if id < H3.n then _ else ρ id ver) = _
      rw [if_neg (by omega), if_neg (by omega)]
    have src : ∀ {id ver : Nat} {l : Loc}, ρ' id ver = some l → (ρ id ver = some l ∧ (id ∉ L ∨ (wjf id cs = true ∧ id ∈ L ∧ ver < wvf (H1.get id))) ∧ (id < H1.n ∨ H3.n ≤ id)) ∨
        (∃ ix s, ρc' ix s = some l ∧ ((L[ix]? = some id ∧ ((wjf id cs = true ∧ ver = wvf (H1.get id) + s) ∨ (wjf id cs = false ∧ ver = s))) ∨ (∃ j, j < Hc.n - L.length ∧ ix = L.length + j ∧ id = H1.n + j ∧ ver = s))) := by
      intro id ver l hl
      by_cases h1 : id < H1.n
      · by_cases h2 : id ∈ L
        · have h3 := hplace h2
          cases hc : wjf id cs with
          | false => rw [e2 h3 hc] at hl; exact .inr ⟨_, _, hl, .inl ⟨h3, .inr ⟨rfl, rfl⟩⟩⟩
          | true =>
            by_cases h4 : ver < wvf (H1.get id)
            · rw [e4 h2 hc h4] at hl; exact .inl ⟨hl, .inr ⟨rfl, h2, h4⟩, .inl h1⟩
            · obtain ⟨s, rfl⟩ : ∃ s, ver = wvf (H1.get id) + s := ⟨ver - wvf (H1.get id), by omega⟩
              rw [e3 h3 hc] at hl
              exact .inr ⟨_, s, hl, .inl ⟨h3, .inl ⟨rfl, rfl⟩⟩⟩
        · rw [e1 h1 h2] at hl; exact .inl ⟨hl, .inl h2, .inl h1⟩
      · by_cases h2 : id < H3.n
        · obtain ⟨j, rfl⟩ : ∃ j, id = H1.n + j := ⟨id - H1.n, by omega⟩
          have hj : j < Hc.n - L.length := by omega
          rw [e5 hj] at hl
          exact .inr ⟨_, _, hl, .inr ⟨j, hj, rfl, rfl, rfl⟩⟩
        · rw [e6 (by omega)] at hl
          exact .inl ⟨hl, .inl fun h => h1 (hltL id h), .inr (by omega)⟩
    have hsub : Sub ρ ρ' := by
      refine ⟨fun id ver l hl => ?_, fun b i v h => hE.cell b i v h⟩
      by_cases h1 : id < H1.n
      · by_cases h2 : id ∈ L
        · have h3 := hplace h2
          have hlt := wti h3
          cases hc : wjf id cs with
          | false =>
            rw [e2 h3 hc]
            refine hE.pin _ _ _ hlt ?_
            simp only [turned, h3, hc, cond_false]
            exact hl
          | true =>
            by_cases h4 : ver < wvf (H1.get id)
            · rw [e4 h2 hc h4]; exact hl
            · have h5 := hvers h2 hc hl
              have h6 : ver = wvf (H1.get id) + 0 := by omega
              rw [h6, e3 h3 hc]
              refine hE.pin _ _ _ hlt ?_
              simp only [turned, h3, hc, cond_true, if_true]
              rw [h6] at hl
              exact hl
        · rw [e1 h1 h2]; exact hl
      · by_cases h2 : id < H3.n
        · rw [hfree id ver (by omega) h2] at hl; cases hl
        · rw [e6 (by omega)]; exact hl
    have hcellid : ∀ b i x, ρc'.cell b i = some x → ρ'.cell b i = some x := fun b i x h => h
    have hTurns : ∀ rs, Turns m ρc' ρ' rs := by
      intro rs r _ l hl
      have hlt : r.1 < Hc.n := by
        rcases Nat.lt_or_ge r.1 Hc.n with h | h
        · exact h
        · rw [hBc' _ _ h] at hl; cases hl
      rw [← hmm]
      simp only [wpn]
      cases hb : Nat.blt r.1 L.length with
      | true =>
        rw [cond_true]
        have hix : r.1 < L.length := Nat.le_of_ble_eq_true hb
        have h3 := List.getElem?_eq_getElem hix
        have h4 := getN_get L r.1 _ h3
        have h5 := wapb H1 cs r.1 _ (hcl.2 _ _ h3)
        simp only at h5
        simp only [h4, h5]
        cases hc : wjf L[r.1] cs with
        | false =>
          simp only [Bool.false_eq_true, if_false]
          rw [show Nat.beq 0 0 = true from rfl, cond_true, e2 h3 hc]
          exact hl
        | true =>
          simp only [if_true]
          cases hz : Nat.beq (wvf (H1.get L[r.1])) 0 with
          | true =>
            have hz' := Nat.eq_of_beq_eq_true hz
            rw [cond_true]
            have := e3 (s := r.2) h3 hc
            rw [hz', Nat.zero_add] at this
            rw [this]; exact hl
          | false =>
            rw [cond_false]
            have := e3 (s := r.2) h3 hc
            show ρ' L[r.1] (wvf (H1.get L[r.1]) + r.2) = _
            rw [this]; exact hl
      | false =>
        rw [cond_false]
        have hge : L.length ≤ r.1 := by
          rcases Nat.lt_or_ge r.1 L.length with h | h
          · rw [show Nat.blt r.1 L.length = true from Nat.ble_eq_true_of_le h] at hb; cases hb
          · exact h
        have := e5 (j := r.1 - L.length) (ver := r.2) (by omega)
        show ρ' (H1.n + (r.1 - L.length)) r.2 = _
        rw [this, show L.length + (r.1 - L.length) = r.1 by omega]
        exact hl
    have hToks : ∀ ts, (∀ t ∈ ts, t ∈ toks v ++ wtl Hc Hc.n 0) → Toks m ts := by
      intro ts hts t ht n
      unfold wev at htops
      have h1 := weg htops t (hts t ht)
      rw [← hmm]
      simp only [wpn]
      cases hb : Nat.blt t L.length with
      | true =>
        rw [hb, cond_true] at h1
        rw [cond_true]
        simp only [h1, cond_true]
      | false => rw [cond_false]
    have hnewToks : ∀ ix, ix < Hc.n → ∀ t ∈ wsab (Hc.get ix), t ∈ wtl Hc Hc.n 0 := by
      have : ∀ (d k ix : Nat), k ≤ ix → ix < k + d → ∀ t ∈ wsab (Hc.get ix), t ∈ wtl Hc d k := by
        intro d
        induction d with
        | zero => intro k ix h1 h2; omega
        | succ d ih =>
          intro k ix h1 h2 t ht
          show t ∈ wsab (Hc.get k) ++ wtl Hc d (k + 1)
          by_cases h : ix = k
          · subst h; exact List.mem_append.2 (.inl ht)
          · exact List.mem_append.2 (.inr (ih (k + 1) ix (by omega) (by omega) t ht))
      intro ix hix t ht
      exact this Hc.n 0 ix (Nat.zero_le _) (by omega) t ht
    have hval : ∀ {u u' : Value}, VR ρc' u u' → (∀ t ∈ toks u, t ∈ toks v ++ wtl Hc Hc.n 0) → VR ρ' (renV m u) u' := fun h1 h2 => wwab h1 hcellid (hTurns _) (hToks _ h2)
    have hcl2 : ∀ (ix : Nat) (b : CBlk), ix < Hc.n → Hc.get ix = some (.cells b) → ∀ (i : Nat) (x : Value), (bif b.pf then b.cells else whd m b.cells)[i]? = some x → ∃ u, b.cells[i]? = some u ∧ ∀ v', VR ρc' u v' → VR ρ' x v' := by
      intro ix b hix hb i x hx
      refine wns (hRc'.wf _ _ hb) hcellid (hTurns _) (hToks _ fun t ht => ?_) i x hx
      rw [← hb] at ht
      exact List.mem_append.2 (.inr (hnewToks ix hix t ht))
    have hblkNo : ∀ (ix s : Nat) (l : Loc) (b b' : ABlk) (t0 f0 : Nat), ix < Hc.n → Hc.get ix = some b → ρc' ix s = some l → weh m false t0 f0 (some b) = some b' → BRel ρ' w' b' s l := by
      intro ix s l b b' t0 f0 hix hb hl hbb
      have hB := hRc'.blk _ _ _ _ hl hb
      cases b with
      | cells c =>
        simp only [weh, cond_false, Option.some.injEq] at hbb
        subst hbb
        refine ⟨hB.1, fun hv => ?_⟩
        have hC := hB.2 hv
        obtain ⟨n, s1, s2, s3, s4⟩ := hC.shape
        have q1 := wkn (b := c) (wv := c.wver) (pf := c.pf) (woj m c) s
        refine ⟨⟨n, s1, fun h => by rw [woj]; exact s2 h, fun h => ⟨(s3 h).1, by rw [q1]; exact (s3 h).2⟩, s4⟩, ?_, hC.esz, hC.hi⟩
        intro i x hi hx
        obtain ⟨u, hu, hrel⟩ := hcl2 ix c hix hb i x hx
        obtain ⟨x', g1, g2⟩ := hC.vals i u (by rw [q1] at hi; exact hi) hu
        exact ⟨x', g1, hrel x' g2⟩
      | map es =>
        simp only [weh, Option.some.injEq] at hbb
        subst hbb
        obtain ⟨h0, ms, clock, q1, q2, q3⟩ := hB
        refine ⟨h0, ms, clock, q1, by rw [wmv]; exact q2, ?_⟩
        intro i e mm he hmm2
        rw [wzlb, Option.map_eq_some_iff] at he
        obtain ⟨e0, he0, rfl⟩ := he
        obtain ⟨k1, k2, k3⟩ := q3 i e0 mm he0 hmm2
        obtain ⟨z1, z2⟩ := wieb (List.mem_of_getElem? he0)
        refine ⟨k1, k2, hval k3 fun t ht => List.mem_append.2 (.inr (hnewToks ix hix t ?_))⟩
        rw [hb]; exact z2 t ht
      | tok x y z =>
        simp only [weh, Option.some.injEq] at hbb
        subst hbb
        exact hB
    have hix_of : ∀ {ix s : Nat} {l : Loc}, ρc' ix s = some l → ix < Hc.n := by
      intro ix s l hl
      rcases Nat.lt_or_ge ix Hc.n with h | h
      · exact h
      · rw [hBc' _ _ h] at hl; cases hl
    have hback : ∀ (ix id : Nat), L[ix]? = some id → wjf id cs = true → ∃ b, Hc.get ix = some (.cells b) ∧ b.lens ≠ [] := by
      have key : ∀ (cs2 : List (Nat × Bool)) (k : Nat), wsl Hc cs2 k = true → ∀ (j : Nat) (c : Nat × Bool), cs2[j]? = some c → c.2 = true → isOpen (Hc.get (k + j)) = true := by
        intro cs2
        induction cs2 with
        | nil => intro k _ j c h; simp at h
        | cons a cs2 ih =>
          intro k h j c hc h2
          simp only [wsl, Bool.and_eq_true] at h
          cases j with
          | zero => simp at hc; subst hc; have := h.1; rw [h2, cond_true] at this; exact this
          | succ j => have := ih (k + 1) h.2 j c (by simpa using hc) h2; rw [show k + (j + 1) = k + 1 + j by omega]; exact this
      intro ix id h1 h2
      have := key cs 0 hbacks ix _ (hcl.2 ix id h1) h2
      rw [Nat.zero_add] at this
      unfold isOpen at this
      split at this
      · rename_i b hb
        split at this
        · cases this
        · rename_i hne; exact ⟨b, hb, hne⟩
      · cases this
    have hdisj : ∀ {id ver : Nat} {l : Loc}, ρ id ver = some l → id ∉ L → ∀ (ix s : Nat) (l' : Loc), turned ρ H1 L cs ix s = some l' → l'.block ≠ l.block := by
      intro id ver l h1 h2 ix s l' h3 e
      obtain ⟨id0, ver0, h4, h5⟩ := hρ1 h3
      have := hR.sep _ _ _ _ _ _ h5 h1 e
      exact h2 (by rw [← this]; exact List.mem_of_getElem? h4)
    have hzl : ∀ (b : CBlk) (t0 : Nat), b.lens ≠ [] → (b.lens ++ zeros t0) ≠ [] ∧ (b.lens ++ zeros t0).length - 1 = (b.lens.length - 1) + t0 := by
      intro b t0 h
      obtain ⟨z1, _⟩ := wny t0
      cases hl : b.lens with
      | nil => exact absurd hl h
      | cons a r => simp [z1]
    have hRel : Rel ρ' B H3 w' := by
      refine ⟨?_, ?_, n2, ?_, ?_, Nat.le_trans hR.base hE.size, ⟨hRc'.fz.cell, ?_⟩⟩
      · intro id ver l b hl hb
        rcases src hl with ⟨h1, h2, h3⟩ | ⟨ix, s, h1, h2⟩
        · rcases h2 with h2 | ⟨hc, h2, h4⟩
          · have hlt : id < H1.n := by
              rcases h3 with h3 | h3
              · exact h3
              · have := n2 id b hb; omega
            rw [gOld id h2 hlt] at hb
            refine (hR.blk _ _ _ _ h1 hb).keep hsub (hE.frame _ (hR.bnd _ _ _ h1).2 fun ix s l' h5 => hdisj h1 h2 ix s l' h5)
          · have h5 := hplace h2
            obtain ⟨c, hc1, hc2⟩ := hback _ _ h5 hc
            rw [gL _ _ h5, hc, hc1] at hb
            simp only [weh, cond_true, Option.some.injEq] at hb
            subst hb
            obtain ⟨z1, z2⟩ := hzl c (wvf (H1.get id)) hc2
            refine ⟨?_, fun hv => ?_⟩
            · simp only [CBlk.top]; omega
            · have hv : wvf (H1.get id) + c.wver ≤ ver := hv
              omega
        · have hix := hix_of h1
          rcases h2 with ⟨h2, h3⟩ | ⟨j, hj, rfl, rfl, rfl⟩
          · rw [gL _ _ h2] at hb
            rcases h3 with ⟨hc, rfl⟩ | ⟨hc, rfl⟩
            · obtain ⟨c, hc1, hc2⟩ := hback _ _ h2 hc
              rw [hc, hc1] at hb
              simp only [weh, cond_true, Option.some.injEq] at hb
              subst hb
              obtain ⟨z1, z2⟩ := hzl c (wvf (H1.get id)) hc2
              have hB := hRc'.blk _ _ _ _ h1 hc1
              have hs : s ≤ c.top := hB.1
              refine ⟨by simp only [CBlk.top]; unfold CBlk.top at hs; omega, fun hv => ?_⟩
              have hv : wvf (H1.get id) + c.wver ≤ wvf (H1.get id) + s := hv
              have hC := hB.2 (by omega)
              obtain ⟨n, s1, s2, s3, s4⟩ := hC.shape
              have hlenAt : ∀ (X : CBlk), X.lens = c.lens ++ zeros (wvf (H1.get id)) → X.lenAt (wvf (H1.get id) + s) = c.lenAt s := by
                intro X hX
                unfold CBlk.lenAt CBlk.top
                unfold CBlk.top at hs
                rw [hX, z2]
                cases hl : c.lens with
                | nil => exact absurd hl hc2
                | cons a r =>
                  simp only [List.cons_append]
                  rw [hl] at hs
                  simp only [List.length_cons, Nat.add_sub_cancel] at hs ⊢
                  rw [show r.length + wvf (H1.get id) - (wvf (H1.get id) + s) = r.length - s by omega]
                  rw [List.getD_eq_getElem?_getD, List.getD_eq_getElem?_getD, ← List.cons_append, List.getElem?_append_left (by simp only [List.length_cons]; omega)]
              refine ⟨⟨n, s1, fun h => absurd h z1, fun _ => ⟨(s3 hc2).1, by rw [hlenAt _ rfl]; exact (s3 hc2).2⟩, fun i hi hi2 => s4 i (Nat.le_trans (Nat.le_max_right _ _) hi) hi2⟩, ?_, hC.esz, fun hm => Nat.le_trans (hC.hi hm) (Nat.le_max_right _ _)⟩
              intro i x hi hx
              obtain ⟨u, hu, hrel⟩ := hcl2 ix c hix hc1 i x hx
              obtain ⟨x', g1, g2⟩ := hC.vals i u (by rw [hlenAt _ rfl] at hi; exact hi) hu
              exact ⟨x', g1, hrel x' g2⟩
            · cases hg : Hc.get ix with
              | none => rw [hg] at hb; cases hb
              | some bb =>
                rw [hg, hc] at hb
                exact hblkNo ix ver l bb b _ _ hix hg h1 hb
          · rw [gNew j hj] at hb
            cases hg : Hc.get (L.length + j) with
            | none => rw [hg] at hb; cases hb
            | some bb =>
              rw [hg] at hb
              exact hblkNo _ _ l bb b _ _ hix hg h1 hb
      · intro id c hc
        have wfNo : ∀ ix bb t0 f0, Hc.get ix = some bb → weh m false t0 f0 (some bb) = some (.cells c) → c.WF := by
          intro ix bb t0 f0 hg hb
          cases bb with
          | cells b =>
            simp only [weh, cond_false, Option.some.injEq, ABlk.cells.injEq] at hb
            subst hb
            have hwf := hRc'.wf _ _ hg
            exact ⟨fun n hn => by rw [woj]; exact hwf.lens n hn, hwf.wver, fun hp => wvl hwf hp⟩
          | map es => cases hb
          | tok x y z => cases hb
        by_cases h1 : id < H1.n
        · by_cases h2 : id ∈ L
          · have h3 := hplace h2
            rw [gL _ _ h3] at hc
            cases hcm : wjf id cs with
            | false =>
              rw [hcm] at hc
              cases hg : Hc.get (idxOf id L 0) with
              | none => rw [hg] at hc; cases hc
              | some bb => rw [hg] at hc; exact wfNo _ _ _ _ hg hc
            | true =>
              obtain ⟨b, hb1, hb2⟩ := hback _ _ h3 hcm
              rw [hcm, hb1] at hc
              simp only [weh, cond_true, Option.some.injEq, ABlk.cells.injEq] at hc
              subst hc
              have hwf := hRc'.wf _ _ hb1
              obtain ⟨z1, z2⟩ := hzl b (wvf (H1.get id)) hb2
              refine ⟨fun n hn => ?_, ?_, fun hp => wvl hwf hp⟩
              · simp only at hn ⊢
                rw [woj]
                rcases List.mem_append.1 hn with h | h
                · exact hwf.lens n h
                · rw [(wny _).2 n h]; exact Nat.zero_le _
              · simp only [CBlk.top]
                have := hwf.wver
                unfold CBlk.top at this
                show wvf (H1.get id) + b.wver ≤ _
                omega
          · rw [gOld id h2 h1] at hc
            exact hR.wf _ _ hc
        · have hlt := n2 id _ hc
          obtain ⟨j, rfl⟩ : ∃ j, id = H1.n + j := ⟨id - H1.n, by omega⟩
          rw [gNew j (by omega)] at hc
          cases hg : Hc.get (L.length + j) with
          | none => rw [hg] at hc; cases hc
          | some bb => rw [hg] at hc; exact wfNo _ _ _ _ hg hc
      · intro id ver l id' ver' l' h1 h2 e
        have mix : ∀ {id ver l id' l' ix s}, ρ id ver = some l → ρc' ix s = some l' → l.block = l'.block → ((L[ix]? = some id') ∨ ∃ j, j < Hc.n - L.length ∧ ix = L.length + j ∧ id' = H1.n + j) → id = id' := by
          intro id ver l id' l' ix s g1 g2 g3 g4
          rcases hE.fresh ix s l' g2 with g5 | ⟨ix0, ver0, l0, g5, g6⟩
          · have := (hR.bnd _ _ _ g1).2; omega
          · obtain ⟨id0, ver1, g7, g8⟩ := hρ1 g5
            have g9 := hR.sep _ _ _ _ _ _ g8 g1 (g6.trans g3.symm)
            have g10 := hE.pin ix0 ver0 l0 (wti g7) g5
            have g11 := hRc'.sep _ _ _ _ _ _ g10 g2 g6
            subst g11
            rcases g4 with g4 | ⟨j, hj, rfl, _⟩
            · rw [g7] at g4; cases g4; exact g9.symm
            · have := wti g7; omega
        rcases src h1 with ⟨g1, _, _⟩ | ⟨ix, s, g1, g2⟩ <;> rcases src h2 with ⟨g3, _, _⟩ | ⟨ix', s', g3, g4⟩
        · exact hR.sep _ _ _ _ _ _ g1 g3 e
        · refine mix g1 g3 e ?_
          rcases g4 with ⟨g4, _⟩ | ⟨j, a1, a2, a3, _⟩
          · exact .inl g4
          · exact .inr ⟨j, a1, a2, a3⟩
        · refine (mix g3 g1 e.symm ?_).symm
          rcases g2 with ⟨g4, _⟩ | ⟨j, a1, a2, a3, _⟩
          · exact .inl g4
          · exact .inr ⟨j, a1, a2, a3⟩
        · have := hRc'.sep _ _ _ _ _ _ g1 g3 e
          subst this
          rcases g2 with ⟨g2, _⟩ | ⟨j, a1, a2, a3, _⟩ <;> rcases g4 with ⟨g4, _⟩ | ⟨j', c1, c2, c3, _⟩
          · rw [g2] at g4; cases g4; rfl
          · have := wti g2; omega
          · have := wti g4; omega
          · omega
      · intro id ver l h1
        rcases src h1 with ⟨g1, _, _⟩ | ⟨ix, s, g1, _⟩
        · have := hR.bnd _ _ _ g1
          have := hE.size
          omega
        · exact hRc'.bnd _ _ _ g1
      · intro id ver l i x b hl hx hb
        have hx : ρc'.cell l.block i = some x := hx
        have frNo : ∀ bb t0 f0, weh m false t0 f0 (some bb) = some b → wzw bb l i → wzw b l i := by
          intro bb t0 f0 h1 h2
          cases bb with
          | cells c => simp only [weh, cond_false, Option.some.injEq] at h1; subst h1; exact h2
          | map es => exact h2.elim
          | tok x y z => simp only [weh, Option.some.injEq] at h1; subst h1; exact h2
        rcases src hl with ⟨h1, h2, h3⟩ | ⟨ix, s, h1, h2⟩
        · rcases h2 with h2 | ⟨hc, h2, h4⟩
          · have hlt : id < H1.n := by
              rcases h3 with h3 | h3
              · exact h3
              · have := n2 id b hb; omega
            rw [gOld id h2 hlt] at hb
            rcases hE.cells _ _ _ hx with g1 | g1 | ⟨ix0, s0, l0, g1, g2⟩
            · exact hR.fz.sep _ _ _ _ _ _ h1 g1 hb
            · have := (hR.bnd _ _ _ h1).2; omega
            · exact absurd g2 (hdisj h1 h2 ix0 s0 l0 g1)
          · have h5 := hplace h2
            obtain ⟨c, hc1, hc2⟩ := hback _ _ h5 hc
            obtain ⟨b1, hb1, _⟩ := htop h2 hc
            rw [gL _ _ h5, hc, hc1, hb1] at hb
            simp only [weh, cond_true, Option.some.injEq] at hb
            subst hb
            show i < Nat.max _ _
            rcases hE.cells _ _ _ hx with g1 | g1 | ⟨ix0, s0, l0, g1, g2⟩
            · have := hR.fz.sep _ _ _ _ _ _ h1 g1 hb1
              exact Nat.lt_of_lt_of_le this (Nat.le_max_left _ _)
            · have := (hR.bnd _ _ _ h1).2; omega
            · obtain ⟨id0, ver1, g7, g8⟩ := hρ1 g1
              have g9 := hR.sep _ _ _ _ _ _ g8 h1 g2
              subst g9
              have g10 := hE.pin ix0 s0 l0 (wti g7) g1
              have g11 : ix0 = idxOf id0 L 0 := (hplace' g7).symm
              rw [← g11] at hc1
              rw [← g2] at hx
              have := hRc'.fz.sep _ _ _ _ _ _ g10 hx hc1
              exact Nat.lt_of_lt_of_le this (Nat.le_max_right _ _)
        · rcases h2 with ⟨h2, h3⟩ | ⟨j, hj, rfl, rfl, rfl⟩
          · rw [gL _ _ h2] at hb
            rcases h3 with ⟨hc, rfl⟩ | ⟨hc, rfl⟩
            · obtain ⟨c, hc1, hc2⟩ := hback _ _ h2 hc
              rw [hc, hc1] at hb
              simp only [weh, cond_true, Option.some.injEq] at hb
              subst hb
              have := hRc'.fz.sep _ _ _ _ _ _ h1 hx hc1
              exact Nat.lt_of_lt_of_le this (Nat.le_max_right _ _)
            · cases hg : Hc.get ix with
              | none => rw [hg] at hb; cases hb
              | some bb => rw [hg, hc] at hb; exact frNo bb _ _ hb (hRc'.fz.sep _ _ _ _ _ _ h1 hx hg)
          · rw [gNew j hj] at hb
            cases hg : Hc.get (L.length + j) with
            | none => rw [hg] at hb; cases hb
            | some bb => rw [hg] at hb; exact frNo bb _ _ hb (hRc'.fz.sep _ _ _ _ _ _ h1 hx hg)
    refine ⟨ρ', hval hv fun t ht => List.mem_append.2 (.inl ht), hRel, ?_⟩
    refine ⟨hsub, hE.size, ?_, ?_, ?_, by omega, ?_, ?_, hE.same, ?_⟩
    · intro b hb himg
      refine hE.frame b hb fun ix s l h1 e => ?_
      obtain ⟨id, ver, h2, h3⟩ := hρ1 h1
      obtain ⟨bb, hbb⟩ := wwf hall id (List.mem_of_getElem? h2)
      exact himg id ver l (by rw [hbb]; rfl) h3 e
    · intro id ver l h1 h0
      rcases src h1 with ⟨g1, _, _⟩ | ⟨ix, s, g1, g2⟩
      · rw [h0] at g1; cases g1
      · rcases hE.fresh ix s l g1 with g3 | ⟨ix0, s0, l0, g3, g4⟩
        · exact .inl g3
        · obtain ⟨id0, ver1, g7, g8⟩ := hρ1 g3
          have g10 := hE.pin ix0 s0 l0 (wti g7) g3
          have g11 := hRc'.sep _ _ _ _ _ _ g10 g1 g4
          subst g11
          rcases g2 with ⟨g2, _⟩ | ⟨j, hj, rfl, _, _⟩
          · rw [g7] at g2
            cases g2
            obtain ⟨bb, hbb⟩ := wwf hall _ (List.mem_of_getElem? g7)
            exact .inr ⟨_, l0, by rw [hbb]; rfl, g8, g4⟩
          · have := wti g7; omega
    · intro id ver l h1 h0
      rcases src h1 with ⟨g1, _, _⟩ | ⟨ix, s, g1, g2⟩
      · rw [h0] at g1; cases g1
      · rcases g2 with ⟨g2, _⟩ | ⟨j, hj, rfl, rfl, rfl⟩
        · obtain ⟨bb, hbb⟩ := wwf hall id (List.mem_of_getElem? g2)
          obtain ⟨s0, l0, g3⟩ := hE.dom ix s l (wti g2) g1
          obtain ⟨id0, ver1, g7, g8⟩ := hρ1 g3
          rw [g2] at g7
          cases g7
          exact .inr ⟨by rw [hbb]; rfl, ver1, l0, g8⟩
        · exact .inl ⟨by omega, by omega⟩
    · intro id h1
      by_cases h2 : id ∈ L
      · have h3 := hplace h2
        rw [gL _ _ h3]
        have h4 := hsomes (idxOf id L 0) (by rw [hcl.1]; exact wti h3)
        rw [Nat.zero_add] at h4
        obtain ⟨bb, hbb⟩ := Option.isSome_iff_exists.1 h4
        rw [hbb]
        cases bb with
        | cells c => simp only [weh]; cases wjf id cs <;> rfl
        | map es => rfl
        | tok x y z => rfl
      · obtain ⟨bb, hbb⟩ := Option.isSome_iff_exists.1 h1
        rw [gOld id h2 (hR.low id bb hbb)]
        exact h1
    · intro id h1
      by_cases h2 : id < H1.n
      · by_cases h3 : id ∈ L
        · obtain ⟨bb, hbb⟩ := wwf hall id h3
          exact .inl (by rw [hbb]; rfl)
        · rw [gOld id h3 h2] at h1; exact .inl h1
      · exact .inr (by omega)
    · intro b i x hx
      rcases hE.cells b i x hx with g1 | g1 | ⟨ix, s, l, g1, g2⟩
      · exact .inl g1
      · exact .inr (.inl g1)
      · obtain ⟨id, ver, h2, h3⟩ := hρ1 g1
        obtain ⟨bb, hbb⟩ := wwf hall id (List.mem_of_getElem? h2)
        exact .inr (.inr ⟨id, ver, l, by rw [hbb]; rfl, h3, g2⟩)
theorem wmub (P : Program) (H : AH) : ∀ (d : Nat) (l l2 : List Value) (fr : Frs), wkg P H d l = some (l2, fr) → wvi fr := by
  intro d
  induction d with
  | zero => intro l l2 fr h; cases h
  | succ d ih =>
    have one : ∀ v u f, wle P H (wkg P H d) v = some (u, f) → wvi f := by
      intro v u f h
      unfold wle at h
      split at h
      · cases h; exact wje
      · cases h; exact wje
      · rename_i a n c
        unfold won at h
        split at h
        · rename_i b hb
          cases hq : (wxdb H (wfg P b) (n + 1) a c && rdOk b (aver a) (a.off + (n + 1) * wfg P b)) with
          | false => rw [hq, cond_false] at h; cases h
          | true =>
            rw [hq, cond_true] at h
            have fin : ∀ cs g, wvi g → (bif wac cs && whc a.block then some (FL (n + 1) cs, (a.block, a.off + (n + 1) * wfg P b) :: g) else none) = some (u, f) → wvi f := by
              intro cs g hg h
              cases hq2 : (wac cs && whc a.block) with
              | false => rw [hq2, cond_false] at h; cases h
              | true =>
                rw [hq2, cond_true] at h
                cases h
                simp only [Bool.and_eq_true] at hq2
                intro p hp
                simp only [List.mem_cons] at hp
                rcases hp with rfl | hp
                · exact hq2.2
                · exact hg p hp
            cases hp : b.pf with
            | true => rw [hp, cond_true] at h; exact fin _ _ wje h
            | false =>
              rw [hp, cond_false] at h
              split at h
              · rename_i cs g hs; exact fin cs g (ih _ _ _ hs) h
              · cases h
        · cases h
      · split at h
        · rename_i hs; cases h; exact ih _ _ _ hs
        · cases h
      · split at h
        · rename_i hs; cases h; exact ih _ _ _ hs
        · cases h
      · split at h
        · rename_i hs; cases h; exact ih _ _ _ hs
        · cases h
      · cases h; exact wje
      · split at h
        · rename_i hs1 hs2
          cases h
          intro x hx
          rcases List.mem_append.1 hx with hx | hx
          · exact ih _ _ _ hs1 x hx
          · exact ih _ _ _ hs2 x hx
        · cases h
      · cases h; exact wje
    intro l
    induction l with
    | nil => intro l2 fr h; cases h; exact wje
    | cons v l ihl =>
      intro l2 fr h
      have e : wkg P H (d + 1) (v :: l) = wmt (one2 (wle P H (wkg P H d) v)) (wkg P H (d + 1) l) := rfl
      rw [e] at h
      cases hs : wle P H (wkg P H d) v with
      | none => rw [hs] at h; simp [one2, wmt] at h
      | some p =>
        obtain ⟨u, f⟩ := p
        cases hr : wkg P H (d + 1) l with
        | none => rw [hs, hr] at h; simp [one2, wmt] at h
        | some q =>
          obtain ⟨l3, g⟩ := q
          rw [hs, hr] at h
          simp only [one2, wmt, Option.some.injEq, Prod.mk.injEq] at h
          obtain ⟨_, rfl⟩ := h
          intro x hx
          rcases List.mem_append.1 hx with hx | hx
          · exact one _ _ _ hs x hx
          · exact ihl _ _ hr x hx
theorem wyab (H : AH) : ∀ l : Frs, (raise H l).n = H.n := by
  intro l
  induction l with
  | nil => rfl
  | cons p l ih =>
    rw [wmy]
    unfold frz1
    split
    · rw [AH.set_eq]; exact ih
    · exact ih
theorem setO_n (H : AH) (id : Nat) (b : Option ABlk) : (setO H id b).n = H.n := by
  cases b with
  | none => rfl
  | some b => rw [setO, AH.set_eq]
theorem wnib (m : Nm) (H1 Hc : AH) : ∀ (cs : List (Nat × Bool)) (ix : Nat) (H : AH), (wfk m H1 Hc cs ix H).n = H.n := by
  intro cs
  induction cs with
  | nil => intro ix H; rfl
  | cons c cs ih => intro ix H; simp only [wfk]; rw [ih, setO_n]
theorem news_n (m : Nm) (Hc : AH) : ∀ (d k : Nat) (H : AH), (news m Hc k d H).n = H.n + d := by
  intro d
  induction d with
  | zero => intro k H; rfl
  | succ d ih =>
    intro k H
    have e : news m Hc k (d + 1) H = news m Hc (k + 1) d (addO H (weh m false 0 0 (Hc.get k))) := rfl
    rw [e, ih, whv]; omega
theorem wamb : ∀ (l : List (Option ABlk)) (H : AH), (wsh l H).n = H.n + l.length := by
  intro l
  induction l with
  | nil => intro H; rfl
  | cons b l ih => intro H; rw [wiv, ih, whv, List.length_cons]; omega
theorem wkeb (H : AH) (m : Nm) : ∀ cs, (wwm H m cs).length = cs.length := by
  intro cs
  induction cs with
  | nil => rfl
  | cons c cs ih => simp [wwm, ih]
theorem pins_le (p : Nat) : ∀ (L : List Nat) (i : Nat), pins p L i = true → p ≤ i + L.length := by
  intro L
  induction L with
  | nil => intro i h; simp only [pins, Nat.ble_eq] at h; simpa using h
  | cons a L ih =>
    intro i h
    simp only [pins] at h
    cases hb : Nat.blt i p with
    | false =>
      have : ¬ i < p := fun h => by rw [show Nat.blt i p = true from Nat.ble_eq_true_of_le h] at hb; cases hb
      omega
    | true =>
      rw [hb, cond_true] at h
      simp only [Bool.and_eq_true] at h
      have := ih (i + 1) h.2
      simp only [List.length_cons]; omega
theorem wbmb {H : AH} {p : Nat} {vs : List Value} {N : Nrm} (h : wte H p vs = some N) : p ≤ N.H.n := by
  unfold wte wzdb at h
  split at h
  · rename_i L _
    cases hq : (wms L && (pins p L 0 && hasAll H L && (wdr L (wvd vs ++ wyb H L) && (whc L.length && wcv (wme H (wvd vs ++ wyb H L) p L 0) (wdp vs ++ wsg H L))))) with
    | false => rw [hq, cond_false] at h; cases h
    | true =>
      rw [hq, cond_true] at h
      cases h
      simp only [Bool.and_eq_true] at hq
      have := pins_le p L 0 hq.2.1.1
      simp only
      rw [wamb, wkeb, (wul _ _ _ _ _).1]
      show p ≤ 0 + L.length
      omega
  · cases h
theorem woib {H : AH} {p : Nat} {vs : List Value} {N : Nrm} (h : wte H p vs = some N) : wms N.L = true ∧ hasAll H N.L = true := by
  unfold wte wzdb at h
  split at h
  · rename_i L _
    cases hq : (wms L && (pins p L 0 && hasAll H L && (wdr L (wvd vs ++ wyb H L) && (whc L.length && wcv (wme H (wvd vs ++ wyb H L) p L 0) (wdp vs ++ wsg H L))))) with
    | false => rw [hq, cond_false] at h; cases h
    | true =>
      rw [hq, cond_true] at h
      cases h
      simp only [Bool.and_eq_true] at hq
      exact ⟨hq.1, hq.2.1.2⟩
  · cases h
theorem eqF_true {a b : Int} (h : eqF a b = true) : a = b := by rw [widb] at h; simpa using h
mutual
theorem wzab : ∀ (a b : Value), beqV a b = true → a = b
  | .bool a, b, h => by cases b <;> simp [beqV] at h; rw [h]
  | .int k a, b, h => by
    cases b <;> simp only [beqV, Bool.and_eq_true] at h <;> first | (cases h; done) | skip
    rw [wtj h.1, eqF_true h.2]
  | .float k a, b, h => by cases b <;> simp [beqV] at h; rw [h.1, h.2]
  | .complex k a c, b, h => by cases b <;> simp [beqV] at h; rw [h.1, h.2.1, h.2.2]
  | .string a, b, h => by
    cases b <;> simp [beqV] at h
    rename_i s
    congr 1
    cases a; cases s
    simp_all
  | .pointer none, b, h => by cases b <;> first | (simp [beqV] at h; done) | (rename_i x; cases x <;> first | rfl | simp [beqV] at h)
  | .pointer (some a), b, h => by
    cases b <;> first | (simp [beqV] at h; done) | skip
    rename_i x
    cases x <;> simp [beqV] at h
    rename_i c
    cases a; cases c; simp_all
  | .slice none l c, b, h => by
    cases b <;> first | (simp [beqV] at h; done) | skip
    rename_i x _ _
    cases x <;> simp [beqV] at h
    simp_all
  | .slice (some a) l c, b, h => by
    cases b <;> first | (simp [beqV] at h; done) | skip
    rename_i x _ _
    cases x <;> simp [beqV] at h
    rename_i d
    cases a; cases d; simp_all
  | .map a, b, h => by cases b <;> simp [beqV] at h; rw [h]
  | .chan a, b, h => by cases b <;> simp [beqV] at h
  | .nilFunc, b, h => by cases b <;> first | rfl | simp [beqV] at h
  | .nilIface, b, h => by cases b <;> first | rfl | simp [beqV] at h
  | .func f a c, b, h => by
    cases b <;> first | (simp [beqV] at h; done) | skip
    simp only [beqV, Bool.and_eq_true, beq_iff_eq] at h
    rw [h.1, wabb _ _ h.2.1, wabb _ _ h.2.2]
  | .iface t a, b, h => by
    cases b <;> first | (simp [beqV] at h; done) | skip
    simp only [beqV, Bool.and_eq_true, Nat.beq_eq] at h
    rw [h.1, wzab _ _ h.2]
  | .agg a, b, h => by
    cases b <;> first | (simp [beqV] at h; done) | skip
    simp only [beqV] at h
    rw [wabb _ _ h]
  | .tuple a, b, h => by
    cases b <;> first | (simp [beqV] at h; done) | skip
    simp only [beqV] at h
    rw [wabb _ _ h]
theorem wabb : ∀ (a b : Array Value), beqA a b = true → a = b
  | ⟨a⟩, ⟨b⟩, h => by simp only [beqA] at h; rw [wbbb _ _ h]
theorem wbbb : ∀ (a b : List Value), beqL a b = true → a = b
  | [], b, h => by cases b <;> first | rfl | simp [beqL] at h
  | a :: r, b, h => by
    cases b <;> first | (simp [beqL] at h; done) | skip
    simp only [beqL, Bool.and_eq_true] at h
    rw [wzab _ _ h.1, wbbb _ _ h.2]
end
theorem wnub : ∀ (a b : List (Value × Value)), beqP a b = true → a = b
  | [], b, h => by cases b <;> first | rfl | simp [beqP] at h
  | a :: r, b, h => by
    cases b <;> first | (simp [beqP] at h; done) | skip
    simp only [beqP, Bool.and_eq_true] at h
    rw [wnub _ _ h.2.2]
    congr 1
    exact Prod.ext (wzab _ _ h.1) (wzab _ _ h.2.1)
theorem beqB_eq {a b : ABlk} (h : beqB a b = true) : a = b := by
  cases a with
  | cells a =>
    cases b with
    | cells b =>
      simp only [beqB, beqC, Bool.and_eq_true, Nat.beq_eq, beq_iff_eq] at h
      obtain ⟨h1, h2, h3, h4, h5, h6, h7, h8⟩ := h
      cases a; cases b
      simp only at *
      rw [wbbb _ _ h1, h2, h3, h4, h5, h6, h7, h8]
    | tok a b c => simp [beqB] at h
    | map b => simp [beqB] at h
  | map a =>
    cases b with
    | cells b => simp [beqB] at h
    | map b => simp only [beqB] at h; rw [wnub _ _ h]
    | tok a b c => simp [beqB] at h
  | tok x y z =>
    cases b with
    | cells b => simp [beqB] at h
    | map b => simp [beqB] at h
    | tok a b c => simp only [beqB, Bool.and_eq_true, Nat.beq_eq] at h; rw [h.1, h.2.1, h.2.2]
theorem wleb {H1 H3 : AH} {L : List Nat} {id : Nat} (hL : id ∈ L) (h : id ∉ changed H1 H3 L) : H3.get id = H1.get id := by
  unfold changed at h
  rw [List.mem_filter] at h
  have : weeb (H1.get id) (H3.get id) = true := by
    cases hq : weeb (H1.get id) (H3.get id) with
    | true => rfl
    | false => exact absurd ⟨hL, by rw [hq]; rfl⟩ h
  unfold weeb at this
  split at this
  · rename_i a b e1 e2
    rw [e1, e2, beqB_eq this]
  · cases this
theorem wpib (m : Nm) (H1 Hc : AH) : ∀ (cs : List (Nat × Bool)) (ix : Nat) (H : AH), (∀ c ∈ cs, whc c.1 = true) → ∀ id, (∀ c ∈ cs, c.1 ≠ id) → (wfk m H1 Hc cs ix H).get id = H.get id := by
  intro cs
  induction cs with
  | nil => intro ix H _ id _; rfl
  | cons c cs ih =>
    intro ix H hk id hid
    simp only [wfk]
    rw [ih _ _ (fun c hc => hk c (by simp [hc])) id fun c hc => hid c (by simp [hc])]
    unfold setO
    split
    · rw [AH.get_set (hk c (by simp)), if_neg fun e => hid c (by simp) e.symm]
    · rfl
theorem woub (m : Nm) (H1 Hc : AH) : ∀ (cs : List (Nat × Bool)) (ix : Nat) (H : AH), (∀ c ∈ cs, whc c.1 = true ∧ c.1 < H.n) → Low H → Low (wfk m H1 Hc cs ix H) := by
  intro cs
  induction cs with
  | nil => intro ix H _ h; exact h
  | cons c cs ih =>
    intro ix H hk hl
    simp only [wfk]
    have hc := hk c (by simp)
    refine ih _ _ (fun c hc => by rw [setO_n]; exact hk c (by simp [hc])) ?_
    unfold setO
    split
    · intro id b hb
      rw [AH.get_set hc.1] at hb
      rw [AH.set_eq]
      simp only
      split at hb
      · rename_i e; rw [e]; exact hc.2
      · exact hl id b hb
    · exact hl
theorem wmeb {H1 : AH} (hlow : Low H1) {vs : List Value} {N : Nrm} (hN : wte H1 0 vs = some N) {v : Value} {Hc : AH} {fr : Frs} {cs : List (Nat × Bool)} (hcs : ∀ c ∈ cs, c.1 ∈ N.L) {v2 : Value} {nb : Option ABlk} {eff : Bool} {H3 : AH} {wr : List Nat}
    (hm : wjj H1 fr N.L cs v Hc = .did v2 nb eff H3 wr) : (∀ id, id ∉ N.L → id < H1.n → H3.get id = H1.get id) ∧ Low H3 := by
  obtain ⟨_, hall⟩ := woib hN
  unfold wjj at hm
  cases hq : (wdv N.L && (Nat.ble N.L.length Hc.n && (whc (H1.n + Hc.n) && (wev N.L.length (wij H1 cs) (toks v ++ wtl Hc Hc.n 0) && (wsl Hc cs 0 && hasAll Hc (upto N.L.length)))))) with
  | false => rw [hq, cond_false] at hm; cases hm
  | true =>
    rw [hq, cond_true] at hm
    simp only [Bool.and_eq_true, Nat.ble_eq] at hq
    obtain ⟨hkeys, hle, hkey, _⟩ := hq
    cases hm
    have hkL : ∀ c ∈ cs, whc c.1 = true ∧ c.1 < H1.n := by
      intro c hc
      obtain ⟨b, hb⟩ := wwf hall c.1 (hcs c hc)
      exact ⟨weg hkeys _ (hcs c hc), hlow _ _ hb⟩
    obtain ⟨_, nlow, n3, _⟩ := wjeb (wpn H1.n N.L.length N.L (wij H1 cs)) Hc (Hc.n - N.L.length) N.L.length (wfk (wpn H1.n N.L.length N.L (wij H1 cs)) H1 Hc cs 0 H1) (by rw [wnib]; exact woi hkey (by omega)) (woub _ _ _ _ _ _ hkL hlow)
    refine ⟨fun id h1 h2 => ?_, nlow⟩
    rw [n3 id (by rw [wnib]; exact h2), wpib _ _ _ _ _ _ (fun c hc => (hkL c hc).1) id fun c hc e => h1 (by rw [← e]; exact hcs c hc)]
theorem wqib {H1 : AH} {L : List Nat} {v : Value} {Hc : AH} {fr : Frs} {cs : List (Nat × Bool)} {v2 : Value} {nb : Option ABlk} {eff : Bool} {H3 : AH} {wr : List Nat}
    (hm : wjj H1 fr L cs v Hc = .did v2 nb eff H3 wr) : nb = none ∧ eff = true ∧ wr = changed H1 H3 L ++ wxm fr ∧ H1.n ≤ H3.n := by
  unfold wjj at hm
  cases hq : (wdv L && (Nat.ble L.length Hc.n && (whc (H1.n + Hc.n) && (wev L.length (wij H1 cs) (toks v ++ wtl Hc Hc.n 0) && (wsl Hc cs 0 && hasAll Hc (upto L.length)))))) with
  | false => rw [hq, cond_false] at hm; cases hm
  | true =>
    rw [hq, cond_true] at hm
    cases hm
    exact ⟨rfl, rfl, rfl, by rw [news_n, wnib]; omega⟩
def wcmb (P : Program) (G : Nat → Option (List Value)) (rec : Rec) : Prop := ∀ f args H o H', rec (.call f args) H = some (o, H') → ∃ v, o = .val v ∧ wxab P G f args H v H'
theorem vrl_mem {ρ : Ren} {l l' : List Value} (h : VRL ρ l l') {ρ' : Ren} {g : Value → Value} (hg : ∀ v v', v ∈ l → VR ρ v v' → VR ρ' (g v) v') : VRL ρ' (l.map g) l' := by
  refine ⟨by simpa using h.1, ?_⟩
  intro i v v' e e'
  rw [List.getElem?_map, Option.map_eq_some_iff] at e
  obtain ⟨u, hu, rfl⟩ := e
  exact hg u v' (List.mem_of_getElem? hu) (h.2 i u v' hu e')
theorem wpub (m : Nm) : ∀ l : List Value, whd m l = l.map (renV m) := by
  intro l
  induction l with
  | nil => rfl
  | cons a l ih => simp [whd, ih]
def wxl (P : Program) (G : Nat → Option (List Value)) (f : FuncId) (a : List Value) (v : Value) : Prop :=
  ∀ (ρ : Ren) (w : World) (args' : Array Value), (∀ b i x, ρ.cell b i = some x → w.cell? ⟨b, i, none⟩ = some x) → GOK G ρ → VRL ρ a args'.toList →
    Calls P f args' w fun e w' => ∃ ρ' v', e = .returned v' ∧ VR ρ' v v' ∧ (∀ id ver, ρ' id ver = ρ id ver) ∧ (∀ b i x, ρ.cell b i = some x → ρ'.cell b i = some x) ∧ (∀ b i x, ρ'.cell b i = some x → ρ.cell b i = some x ∨ w.heap.size ≤ b) ∧
      (∀ b i x, ρ'.cell b i = some x → w'.cell? ⟨b, i, none⟩ = some x) ∧ w.heap.size ≤ w'.heap.size ∧ (∀ b : Nat, b < w.heap.size → w'.heap[b]? = w.heap[b]?) ∧ w'.os = w.os ∧ w'.output = w.output
def wth (P : Program) (G : Nat → Option (List Value)) (know : FuncId → Option (List Value → Option Value)) : Prop := ∀ f g a v, know f = some g → g a = some v → wxl P G f a v
theorem wcpb {G : Nat → Option (List Value)} {f : FuncId} {args a : List Value} {H : AH} {v : Value} {fr : Frs} (hk : wvi fr)
    (hargs : ∀ (ρ : Ren) (B : Nat) (w : World) (args' : List Value), Rel ρ B H w → VRL ρ args args' → VRL (ρ.frz H w fr) a args') (hv : wxl P G f a v) : CallOK P G f args H v (raise H fr) (wxm fr) := by
  refine ⟨by rw [wyab]; exact Nat.le_refl _, fun hlow => ?_, fun ρ B w args' hR hG hA hfree => ?_⟩
  · obtain ⟨_, r2, _, r4, _⟩ := wos hlow fr hk
    exact ⟨r2, fun id hid _ => r4 id hid⟩
  · have hp := wnv (w := w) hR hk
    refine (hv (ρ.frz H w fr) w args' hp.rel.fz.cell (hG.cells (fun b i v h => (wwl ρ H w fr).cell b i v h)) (hargs ρ B w _ hR hA)).mono ?_
    rintro e w' ⟨ρ', v', rfl, h1, h2, h3, h4, h5, h6, h7, h8, h9⟩
    have hsub : Sub (ρ.frz H w fr) ρ' := ⟨fun id ver l hl => by rw [h2]; exact hl, h3⟩
    refine ⟨ρ', v', rfl, h1, hp.trans ⟨⟨?_, hp.rel.wf, hp.rel.low, ?_, ?_, Nat.le_trans hp.rel.base h6, ⟨h5, ?_⟩⟩, ?_⟩ hfree⟩
    · intro id ver l b hl hb
      rw [h2] at hl
      exact (hp.rel.blk id ver l b hl hb).keep hsub (h7 _ (hp.rel.bnd _ _ _ hl).2)
    · intro id ver l id' ver' l' hl hl' he
      rw [h2] at hl hl'
      exact hp.rel.sep _ _ _ _ _ _ hl hl' he
    · intro id ver l hl
      rw [h2] at hl
      have := hp.rel.bnd _ _ _ hl
      omega
    · intro id ver l i x b hl hx hb
      rw [h2] at hl
      rcases h4 _ _ _ hx with h | h
      · exact hp.rel.fz.sep id ver l i x b hl h hb
      · have := (hp.rel.bnd _ _ _ hl).2
        omega
    · refine ⟨hsub, h6, fun b hb _ => h7 b hb, fun id ver l h h' => (by rw [h2, h'] at h; cases h), fun id ver l h h' => (by rw [h2, h'] at h; cases h), Nat.le_refl _, fun _ h => h, fun _ h => .inl h, ⟨h8, h9⟩, fun b i x hx => ?_⟩
      rcases h4 b i x hx with h | h
      · exact .inl h
      · exact .inr (.inl h)
theorem wdmb {cfg : Cfg} {rec : Rec} {G : Nat → Option (List Value)} (hrec : wcmb P G rec) (wci : wth P G cfg.know) : CSOK P G (callS P cfg rec) := by
  intro f args H v nb eff H' wr h
  have main : ∀ (a : List Value) (fr : Frs), wvi fr → (∀ (ρ : Ren) (B : Nat) (w : World) (args' : List Value), Rel ρ B H w → VRL ρ args args' → VRL (ρ.frz H w fr) a args') → (∀ ρ B w, Rel ρ B H w → True) →
      wjy rec f H (raise H fr) fr a (wte (raise H fr) 0 a) = .did v nb eff H' wr → nb = none ∧ eff = true ∧ CallOK P G f args H v H' wr := by
    intro a fr hk hargs _ h
    cases hN : wte (raise H fr) 0 a with
    | none => rw [hN] at h; cases h
    | some N =>
      rw [hN] at h
      simp only [wjy] at h
      cases hr : rec (.call f (whd N.m a)) N.H with
      | none => rw [hr] at h; cases h
      | some r =>
        obtain ⟨o, Hc⟩ := r
        obtain ⟨v0, rfl, hn0, hcall⟩ := hrec _ _ _ _ _ hr
        rw [hr] at h
        simp only [wer] at h
        have run : ∀ (ρ : Ren) (B : Nat) (w : World) (args' : Array Value), Rel ρ B H w → GOK G ρ → VRL ρ args args'.toList →
            Rel (ρ.frz H w fr) B (raise H fr) w ∧ Post ρ B H w (ρ.frz H w fr) (raise H fr) w ∧
            Calls P f args' w fun e w' => ∃ ρ' v', e = .returned v' ∧ VR ρ' v0 v' ∧ Rel ρ' B Hc w' ∧ Bd ρ' Hc ∧ Ext2 N.H.n (turned (ρ.frz H w fr) (raise H fr) N.L (wme (raise H fr) (wvd a ++ wyb (raise H fr) N.L) 0 N.L 0)) N.H w ρ' Hc w' := by
          intro ρ B w args' hR hG hA
          have hp := wnv hR hk
          obtain ⟨q1, q2, q3, q4, _⟩ := wyp hN hp.rel
          refine ⟨hp.rel, hp, hcall _ B w args' q1 (hG.cells (fun b i v h => (wwl ρ H w fr).cell b i v h)) q2 ?_⟩
          rw [wpub]
          exact vrl_mem (hargs ρ B w _ hR hA) fun v v' hv hrel => q4 v v' hv hrel
        cases hq : (isNil N.L && flat v0) with
        | true =>
          rw [hq, cond_true] at h
          cases h
          simp only [Bool.and_eq_true] at hq
          have hL : N.L = [] := by
            have := hq.1
            cases hl : N.L with
            | nil => rfl
            | cons a r => rw [hl] at this; cases this
          refine ⟨rfl, rfl, Nat.le_refl _, fun hl => ⟨hl, fun _ _ _ => rfl⟩, fun ρ B w args' hR hG hA hfree => ?_⟩
          obtain ⟨_, _, hc⟩ := run ρ B w args' hR hG hA
          refine hc.mono ?_
          rintro e w' ⟨ρ', v', rfl, h1, h2, h3, h4⟩
          have hv := h1.of_flat hq.2
          subst hv
          refine ⟨ρ, _, rfl, .flat hq.2, ?_⟩
          have hsame : ∀ b : Nat, b < w.heap.size → w'.heap[b]? = w.heap[b]? := by
            intro b hb
            refine h4.frame b hb fun id ver l hl => ?_
            simp only [turned, hL] at hl
            simp at hl
          refine ⟨⟨fun id ver l b hl hb => (hR.blk id ver l b hl hb).keep (.refl ρ) (hsame _ (hR.bnd _ _ _ hl).2), hR.wf, hR.low, hR.sep, fun id ver l hl => ?_, Nat.le_trans hR.base h4.size, ⟨fun b i x hx => ?_, hR.fz.sep⟩⟩, ?_⟩
          · have := hR.bnd _ _ _ hl
            have := h4.size
            omega
          · have h5 := hR.fz.cell b i x hx
            have h6 := hsame b (hR.fz.lt hx)
            unfold World.cell? at h5 ⊢
            simp only at h5 ⊢
            rw [h6]; exact h5
          · exact ⟨.refl ρ, h4.size, fun b hb _ => hsame b hb, fun id ver l h h' => (by rw [h'] at h; cases h), fun id ver l h h' => (by rw [h'] at h; cases h), Nat.le_refl _, fun _ h => h, fun _ h => .inl h, h4.same, fun _ _ _ h => .inl h⟩
        | false =>
          rw [hq, cond_false] at h
          obtain ⟨m1, m2, m3, m4⟩ := wqib h
          rw [wyab] at m4
          refine ⟨m1, m2, m4, fun hlow => ?_, fun ρ B w args' hR hG hA hfree => ?_⟩
          · obtain ⟨_, r2, _, r4, _⟩ := wos hlow fr hk
            have key := wmeb r2 hN (fun c hc => ?_) h
            refine ⟨key.2, fun id hid hlt => ?_⟩
            · rw [m3] at hid
              simp only [List.mem_append, not_or] at hid
              by_cases hL : id ∈ N.L
              · rw [wleb hL hid.1, r4 id hid.2]
              · rw [key.1 id hL (by rw [wyab]; exact hlt), r4 id hid.2]
            obtain ⟨i, hi, hci⟩ := List.getElem_of_mem hc
            obtain ⟨c1, c2⟩ := wul (raise H fr) (wvd a ++ wyb (raise H fr) N.L) 0 N.L 0
            have hi' : i < N.L.length := by rw [← c1]; exact hi
            have := c2 i _ (List.getElem?_eq_getElem hi')
            rw [List.getElem?_eq_getElem hi, hci] at this
            cases this
            exact List.getElem_mem hi'
          · obtain ⟨hR1, hp, hc⟩ := run ρ B w args' hR hG hA
            refine hc.mono ?_
            rintro e w' ⟨ρ', v', rfl, h1, h2, h3, h4⟩
            obtain ⟨_, _, _, _, _, fin⟩ := merge_ok hR1 hN h
            obtain ⟨ρ2, g1, g2⟩ := fin (by rw [wyab]; exact hfree) h1 h2 h3 h4
            exact ⟨ρ2, v', rfl, g1, hp.trans g2 hfree⟩
  have both : ∀ (a : List Value) (fr : Frs), wvi fr → (∀ (ρ : Ren) (B : Nat) (w : World) (args' : List Value), Rel ρ B H w → VRL ρ args args' → VRL (ρ.frz H w fr) a args') →
      wfeb rec f H (some (a, fr)) (cfg.know f) = .did v nb eff H' wr → nb = none ∧ eff = true ∧ CallOK P G f args H v H' wr := by
    intro a fr hk hargs h
    cases hkn : cfg.know f with
    | none =>
      rw [hkn] at h
      simp only [wfeb, wfv] at h
      exact main a fr hk hargs (fun _ _ _ _ => trivial) h
    | some g =>
      rw [hkn] at h
      simp only [wfeb] at h
      cases hg : g a with
      | none =>
        rw [hg] at h
        simp only [callG, wfv] at h
        exact main a fr hk hargs (fun _ _ _ _ => trivial) h
      | some u =>
        rw [hg] at h
        simp only [callG] at h
        cases h
        exact ⟨rfl, rfl, wcpb hk hargs (wci f g a _ hkn hg)⟩
  unfold callS at h
  cases hraw : (cfg.raw f).1 with
  | true =>
    rw [hraw, cond_true] at h
    exact both args [] wje (fun ρ B w args' hR hA => hA.mono (wwl ρ H w [])) h
  | false =>
    rw [hraw, cond_false] at h
    cases hs : wkg P H 20 args with
    | none =>
      rw [hs] at h
      cases hkn : cfg.know f with
      | none => rw [hkn] at h; cases h
      | some g => rw [hkn] at h; cases h
    | some r =>
      obtain ⟨a, fr⟩ := r
      rw [hs] at h
      exact both a fr (wmub P H 20 args a fr hs) (fun ρ B w args' hR hA => (wlub hR 20 args args' hA a fr hs).2) h
end
end Go.Den
namespace Go.Den
noncomputable section
variable {P : Program}
theorem wqub {e e' : Env} {o : Oper} (hk : wch o.op = true) (hx : ∀ x ∈ o.op.operands.toList, evl e x = evl e' x) : genA P e o = genA P e' o := by
  have h1 : (o.op.operands.toList.all fun x => flat (evl e x)) = o.op.operands.toList.all fun x => flat (evl e' x) := by
    have : ∀ (l : List Operand), (∀ x ∈ l, evl e x = evl e' x) → (l.all fun x => flat (evl e x)) = l.all fun x => flat (evl e' x) := by
      intro l
      induction l with
      | nil => intro _; rfl
      | cons a l ih => intro h; simp only [List.all_cons]; rw [h a (by simp), ih fun x hx => h x (by simp [hx])]
    exact this _ hx
  unfold genA
  rw [h1, execOp_congr o hk hx]
theorem wmo {e e' : Env} (l : List Operand) (h : ∀ x ∈ l, evl e x = evl e' x) : evls e l = evls e' l := by
  induction l with
  | nil => rfl
  | cons a l ih => show evl e a :: evls e l = evl e' a :: evls e' l; rw [h a (by simp), ih fun x hx => h x (by simp [hx])]
theorem wyl {e e' : Env} (l : List (Nat × Nat × Operand)) (h : ∀ x ∈ l, evl e x.2.2 = evl e' x.2.2) : wo e l = wo e' l := by
  induction l with
  | nil => rfl
  | cons a l ih => obtain ⟨x, y, z⟩ := a; simp only [wo]; rw [h (x, y, z) (by simp), ih fun x hx => h x (by simp [hx])]
theorem wmk {e e' : Env} (d : Nat) (x : Option Operand) (h : ∀ y, x = some y → evl e y = evl e' y) : wph e d x = wph e' d x := by
  cases x with
  | none => rfl
  | some y => simp only [wph, h y rfl]
theorem wdpb {places : List (Nat × Nat)} : ∀ (parts : List (Nat × Operand)) (L : List (Nat × Nat × Operand)), wiu places parts = some L → ∀ q ∈ L, ∃ p ∈ parts, p.2 = q.2.2 := by
  intro parts
  induction parts with
  | nil => intro L h q hq; cases h; simp at hq
  | cons p parts ih =>
    intro L h q hq
    obtain ⟨j, x⟩ := p
    simp only [wiu] at h
    split at h
    · rename_i pl l h1 h2
      cases h
      simp only [List.mem_cons] at hq
      rcases hq with rfl | hq
      · exact ⟨(j, x), by simp, rfl⟩
      · obtain ⟨p, h3, h4⟩ := ih l h2 q hq
        exact ⟨p, by simp [h3], h4⟩
    · cases h
theorem woy {size : Nat} : ∀ (parts : List (Nat × Operand)), ∀ q ∈ wyk size parts, ∃ p ∈ parts, p.2 = q.2.2 := by
  intro parts
  induction parts with
  | nil => intro q hq; simp [wyk] at hq
  | cons p parts ih =>
    intro q hq
    obtain ⟨j, x⟩ := p
    simp only [wyk, List.mem_cons] at hq
    rcases hq with rfl | hq
    · exact ⟨(j, x), by simp, rfl⟩
    · obtain ⟨p, h3, h4⟩ := ih q hq
      exact ⟨p, by simp [h3], h4⟩
theorem wepb {e e' : Env} {o : Oper} {i : Ins} (hc : comp P o = some i) (hgg : e.g = e'.g) (hx : ∀ x ∈ o.op.operands.toList, evl e x = evl e' x) (H : AH) (f : Nat) : insA P e H f i = insA P e' H f i := by
  unfold comp at hc
  split at hc
  · rename_i h0
    simp only [Bool.and_eq_true] at h0
    have hk := h0.1
    have hg : genA P e o = genA P e' o := wqub hk hx
    have m1 : ∀ x, x ∈ o.op.operands.toList → evl e x = evl e' x := hx
    unfold watb at hc
    split at hc
    · rename_i x ho; cases hc; simp only [insA, m1 x (by rw [ho]; simp [Op.operands])]
    · rename_i x ho; cases hc; simp only [insA, m1 x (by rw [ho]; simp [Op.operands])]
    · rename_i c x y ho; cases hc; simp only [insA, m1 x (by rw [ho]; simp [Op.operands]), m1 y (by rw [ho]; simp [Op.operands]), m1 c (by rw [ho]; simp [Op.operands])]
    · rename_i elem ho
      split at hc
      · split at hc
        · cases hc; rfl
        · cases hc
      · cases hc
    · rename_i elem x ho; cases hc; simp only [insA, m1 x (by rw [ho]; simp [Op.operands])]
    · rename_i t parts ho
      have mp : ∀ p ∈ parts.toList, evl e p.2 = evl e' p.2 := fun p hp => m1 p.2 (by rw [ho]; simp only [Op.operands]; simp; exact ⟨p.1, by simpa using hp⟩)
      unfold wnq at hc
      split at hc
      · split at hc
        · split at hc
          · rename_i l hl; cases hc
            simp only [insA]
            rw [wyl (e' := e') l fun q hq => by obtain ⟨p, h1, h2⟩ := wdpb _ _ hl q hq; rw [← h2]; exact mp p h1]
          · cases hc
        · cases hc
      · split at hc
        · cases hc
          simp only [insA]
          rw [wyl (e' := e') _ fun q hq => by obtain ⟨p, h1, h2⟩ := woy _ q hq; rw [← h2]; exact mp p h1]
        · cases hc
      · cases hc
    · rename_i t len parts ho
      have mp : ∀ p ∈ parts.toList, evl e p.2 = evl e' p.2 := fun p hp => m1 p.2 (by rw [ho]; simp only [Op.operands]; simp; exact ⟨p.1, by simpa using hp⟩)
      unfold woq at hc
      split at hc
      · split at hc
        · split at hc
          · split at hc
            · cases hc
              simp only [insA]
              rw [wyl (e' := e') _ fun q hq => by obtain ⟨p, h1, h2⟩ := woy _ q hq; rw [← h2]; exact mp p h1]
            · cases hc
          · cases hc
        · cases hc
      · cases hc
    · rename_i t x ho
      unfold wst at hc
      split at hc
      · split at hc <;> cases hc <;> simp only [insA, m1 x (by rw [ho]; simp [Op.operands])]
      · cases hc
    · rename_i t x y ho
      split at hc
      · cases hc; simp only [insA, m1 x (by rw [ho]; simp [Op.operands]), m1 y (by rw [ho]; simp [Op.operands])]
      · cases hc
    · rename_i x ho; cases hc; simp only [insA, m1 x (by rw [ho]; simp [Op.operands])]
    · rename_i op t x y yt ho
      have ex := m1 x (by rw [ho]; simp [Op.operands])
      have ey := m1 y (by rw [ho]; simp [Op.operands])
      unfold wwgb at hc
      split at hc
      · split at hc
        · cases hc; simp only [insA, ex, ey, wju]; split <;> simp only [wzgb, hg]
        · split at hc
          · have : ∀ neg d, wqp P neg d x y = some i → insA P e H f i = insA P e' H f i := by
              intro neg d h
              unfold wqp at h
              split at h
              · split at h
                · split at h
                  · cases h; simp only [insA, ex, ey]
                  · cases h
                · cases h
              · cases h; simp only [insA, ex, ey]
              · cases h; simp only [insA, ex, ey]
              · cases h; simp only [insA, ex, ey]
              · cases h
            split at hc
            · exact this _ _ hc
            · exact this _ _ hc
            · cases hc
          · cases hc; exact hg
      · cases hc
    · cases hc; exact hg
    · rename_i src dst x ho
      have ex := m1 x (by rw [ho]; simp [Op.operands])
      unfold wtz at hc
      split at hc
      · split at hc
        · cases hc; simp only [insA, ex, b2sA, b2sF, hg]
        · cases hc
      · split at hc
        · split at hc
          · cases hc; simp only [insA, ex]
          · cases hc
        · cases hc
      · unfold wsz at hc
        split at hc
        · split at hc
          · unfold wysb at hc
            split at hc
            · split at hc
              · cases hc; simp only [insA, ex, wddb, hg]
              · cases hc
            · cases hc
          · cases hc; exact hg
        · split at hc
          · split at hc
            · unfold wrz at hc
              split at hc
              · cases hc; simp only [insA, ex, wedb, hg]
              · cases hc
            · cases hc; exact hg
          · cases hc; exact hg
      · cases hc
    · rename_i t x ho
      split at hc
      · cases hc
      · cases hc; simp only [insA, m1 x (by rw [ho]; simp [Op.operands])]
      · cases hc
    · rename_i fn first captured ho
      split at hc
      · cases hc
        simp only [insA]
        rw [wmo first.toList fun x hx => m1 x (by rw [ho]; simp only [Op.operands, Array.toList_append, List.mem_append]; exact .inl hx), wmo captured.toList fun x hx => m1 x (by rw [ho]; simp only [Op.operands, Array.toList_append, List.mem_append]; exact .inr hx)]
      · cases hc
    · cases hc; rfl
    · rename_i t l c ho
      split at hc
      · split at hc
        · split at hc
          · split at hc
            · cases hc; simp only [insA, m1 l (by rw [ho]; simp [Op.operands]), m1 c (by rw [ho]; simp [Op.operands])]
            · cases hc
          · cases hc
        · cases hc
      · cases hc
    · rename_i t x lo hi mx ho
      have ex := m1 x (by rw [ho]; simp [Op.operands])
      have elo : ∀ y, lo = some y → evl e y = evl e' y := fun y hy => m1 y (by rw [ho, hy]; simp [Op.operands])
      have ehi : ∀ y, hi = some y → evl e y = evl e' y := fun y hy => m1 y (by rw [ho, hy]; simp [Op.operands])
      have emx : ∀ y, mx = some y → evl e y = evl e' y := fun y hy => m1 y (by rw [ho, hy]; simp [Op.operands])
      unfold wusb at hc
      split at hc
      · cases hc; exact hg
      · split at hc
        · cases hc
          have e0 : ∀ d, wph e d lo = wph e' d lo := fun d => wmk d lo elo
          have e1 : ∀ d, wph e d hi = wph e' d hi := fun d => wmk d hi ehi
          have e2 : ∀ y, mx = some y → evl e y = evl e' y := emx
          simp only [insA, ex, slSA, slF, slF2, hg, e0, e1]
          cases mx with
          | none => rfl
          | some y => simp only [e2 y rfl]
        · cases hc
      · split at hc
        · cases hc; simp only [insA, ex, slAA, wmk 0 lo elo, wmk _ hi ehi]
        · cases hc
      · cases hc
    · rename_i s x j ho
      have ex := m1 x (by rw [ho]; simp [Op.operands])
      unfold wpq at hc
      split at hc
      · split at hc
        · split at hc
          · split at hc
            · cases hc
            · cases hc; simp only [insA, ex]
          · cases hc
        · cases hc
      · cases hc
    · rename_i s x j ho
      have ex := m1 x (by rw [ho]; simp [Op.operands])
      unfold wqq at hc
      split at hc
      · split at hc
        · split at hc
          · split at hc <;> cases hc <;> simp only [insA, ex]
          · cases hc
        · cases hc
      · cases hc
    · rename_i t x y ho
      have ex := m1 x (by rw [ho]; simp [Op.operands])
      have ey := m1 y (by rw [ho]; simp [Op.operands])
      unfold wrq at hc
      split at hc
      · split at hc
        · cases hc; simp only [insA, ex, ey]
        · cases hc
      · split at hc
        · cases hc; simp only [insA, ex, ey]
        · cases hc
      · cases hc
    · rename_i t x y ho
      have ex := m1 x (by rw [ho]; simp [Op.operands])
      have ey := m1 y (by rw [ho]; simp [Op.operands])
      unfold wsq at hc
      split at hc
      · split at hc
        · split at hc <;> cases hc <;> simp only [insA, ex, ey]
        · cases hc
      · cases hc; exact hg
      · cases hc
    · rename_i t m k ok ho
      have em := m1 m (by rw [ho]; simp [Op.operands])
      have ek := m1 k (by rw [ho]; simp [Op.operands])
      split at hc
      · split at hc
        · split at hc
          · cases hc; simp only [insA, em, ek, wcab, hg]
          · cases hc
        · cases hc
      · cases hc
    · rename_i t m k x ho
      split at hc
      · cases hc; simp only [insA, m1 m (by rw [ho]; simp [Op.operands]), m1 k (by rw [ho]; simp [Op.operands]), m1 x (by rw [ho]; simp [Op.operands])]
      · cases hc
    · rename_i t m k x ho
      split at hc
      · cases hc; simp only [insA, m1 m (by rw [ho]; simp [Op.operands]), m1 k (by rw [ho]; simp [Op.operands]), m1 x (by rw [ho]; simp [Op.operands])]
      · cases hc
    · rename_i x j ho; cases hc; simp only [insA, m1 x (by rw [ho]; simp [Op.operands])]
    · cases hc; exact hg
    · rename_i c ho
      have margs : ∀ x ∈ c.args.toList, evl e x = evl e' x := fun x hx => m1 x (by rw [ho]; simp only [Op.operands, Call.operands, Array.toList_append, List.mem_append]; exact .inr hx)
      split at hc
      · rename_i b hb
        unfold wol at hc
        split at hc
        · rename_i x hx1
          have ex := margs x (by rw [hx1]; simp)
          split at hc
          · cases hc; simp only [insA, ex, waab, lenF, hg]
          · cases hc; simp only [insA, ex, wbab, hg]
          · cases hc; exact hg
          · cases hc
        · rename_i x hx1
          split at hc
          · cases hc; simp only [insA, margs x (by rw [hx1]; simp)]
          · cases hc
        · rename_i s x hx1
          split at hc
          · split at hc
            · split at hc
              · cases hc; simp only [insA, hgg, margs s (by rw [hx1]; simp), margs x (by rw [hx1]; simp)]
              · cases hc
            · cases hc
          · cases hc
        · rename_i d s hx1
          split at hc
          · split at hc
            · split at hc
              · cases hc; simp only [insA, margs s (by rw [hx1]; simp), margs d (by rw [hx1]; simp)]
              · cases hc
            · cases hc
          · cases hc
        · rename_i x hx1; cases hc; simp only [insA, margs x (by rw [hx1]; simp)]
        · cases hc; exact hg
        · cases hc; exact hg
        · cases hc; exact hg
        · cases hc; exact hg
        · cases hc; exact hg
        · unfold wvz at hc
          split at hc
          · unfold wuz at hc
            split at hc
            · rename_i x n hx1
              split at hc
              · cases hc; simp only [insA, margs x (by rw [hx1]; simp), margs n (by rw [hx1]; simp)]
              · cases hc
            · cases hc
          · cases hc
      · rename_i g hg1
        split at hc
        · cases hc; simp only [insA]; rw [wmo _ margs]
        · split at hc
          · unfold wqz at hc
            split at hc
            · rename_i x hx1; cases hc; simp only [insA, margs x (by rw [hx1]; simp)]
            · cases hc
          · unfold wxgb at hc
            split at hc
            · unfold wwsb at hc
              split at hc
              · rename_i x hx1; cases hc; simp only [insA, margs x (by rw [hx1]; simp)]
              · cases hc
            · cases hc; exact hg
      · rename_i g _ hg1
        cases hc
        simp only [insA]
        rw [wmo _ margs, m1 g (by rw [ho]; simp [Op.operands, Call.operands, hg1])]
      · cases hc
    · cases hc
  · cases hc
def Quiet (r : ARes) : Prop := r = .none ∨ ∃ v, r = val v
theorem Quiet.nb {r : ARes} (h : Quiet r) {v : Value} {nb : Option ABlk} (e : r = .simple v nb) : nb = none := by
  rcases h with h | ⟨x, h⟩
  · rw [h] at e; cases e
  · rw [h] at e; cases e; rfl
theorem wnb : Quiet .none := .inl rfl
theorem wlc (v : Value) : Quiet (val v) := .inr ⟨v, rfl⟩
theorem wsc {b : Bool} {r s : ARes} (h : Quiet r) (h' : Quiet s) : Quiet (bif b then r else s) := by cases b <;> assumption
theorem wfpb (o : Option Value) : Quiet (valO o) := by cases o; exact wnb; exact wlc _
theorem wne (e : Env) (o : Oper) : Quiet (genA P e o) := by
  unfold genA
  refine wsc ?_ wnb
  split
  · exact wsc (wlc _) wnb
  · exact wnb
theorem wnk {n : Nat} {g : Nat → Value} : Quiet (wgj n fun k => val (g k)) := by rw [wtd]; exact wlc _
theorem wzl (off : Nat) (x : Value) : Quiet (wom off x) := by
  unfold wom
  split
  · exact wnk
  · unfold wdtb; split
    · exact wnk
    · exact wnb
theorem wno (off : Nat) (x : Value) : Quiet (wjt off x) := by
  unfold wjt
  split
  · exact wfpb _
  · exact wnb
theorem woo (off s : Nat) (x : Value) : Quiet (wcs off s x) := by
  unfold wcs
  split
  · exact wsc (wlc _) wnb
  · exact wnb
theorem wct (l h : Nat) : Quiet (wadb l h) := wsc (wlc _) wnb
theorem wam (s : Nat) (a : Addr) (c l h : Nat) : Quiet (wku s a c l h) := wsc (wlc _) wnb
theorem wrib (H : AH) (s : Nat) (a : Addr) (n c l h m : Nat) : Quiet (wetb H s a n c l h m) := wsc (wlc _) wnb
theorem wneb (H : AH) (s : Nat) (a : Addr) (n l h : Nat) : Quiet (wzcb H s a n l h) := wsc (wsc (wlc _) (wlc _)) wnb
theorem wsib (H : AH) (s : Nat) (a : Addr) (n c l h : Nat) : Quiet (wwnb H s a n c l h) := by
  unfold wwnb
  split
  · exact wneb _ _ _ _ _ _
  · exact wct _ _
  · exact wam _ _ _ _ _
theorem woeb (H : AH) (s : Nat) (a : Addr) (n c l h m : Nat) : Quiet (wyx H s a n c l h m) := by
  unfold wyx
  split
  · exact wsc (wct _ _) wnb
  · exact wrib _ _ _ _ _ _ _ _
theorem wrub (e : Env) (s : Nat) (lo hi mx : Option Operand) (o : Oper) (p : Option (Nat × List Value)) : Quiet (slF P e s lo hi mx o p) := by
  unfold slF
  split
  · split
    · unfold slF2
      split
      · exact wsc (wsc (wlc _) (wlc _)) wnb
      · split
        · unfold slFm
          split
          · exact wsc (wsc (wlc _) wnb) wnb
          · exact wnb
        · exact wnb
    · exact wnb
  · exact wne _ _
theorem wemb (e : Env) (H : AH) (s : Nat) (x : Value) (lo hi mx : Option Operand) (o : Oper) : Quiet (slSA P e H s x lo hi mx o) := by
  unfold slSA
  split
  · split
    · split
      · exact wsib _ _ _ _ _ _ _
      · split
        · exact woeb _ _ _ _ _ _ _ _
        · exact wnb
    · exact wnb
  · exact wrub _ _ _ _ _ _ _
theorem wov (H : AH) (x : Value) : Quiet (wzk H x) := by
  rcases wgn H x with h | ⟨y, h⟩
  · exact .inl h
  · exact .inr ⟨y, h⟩
theorem wpv (H : AH) (n : Nat) (x : Value) : Quiet (wal H n x) := by
  rcases whn H n x with h | ⟨y, h⟩
  · exact .inl h
  · exact .inr ⟨y, h⟩
theorem wpy (e : Env) (H : AH) (kt : Nat) (z : Value) (ok : Bool) (m k : Value) (o : Oper) : Quiet (wcab P e H kt z ok m k o) := by
  unfold wcab
  split
  · split
    · refine wsc ?_ wnb
      unfold wsp
      split
      · exact wlc _
      · exact wlc _
      · exact wnb
    · exact wnb
  · exact wne _ _
theorem wpeb (e : Env) (H : AH) (x : Value) (o : Oper) : Quiet (b2sA P e H x o) := by
  unfold b2sA
  split
  · exact wlc _
  · split
    · exact wsc (wlc _) wnb
    · exact wnb
  · unfold b2sF
    split
    · exact wsc (wsc (wlc _) wnb) wnb
    · exact wne _ _
def Loud (r : ARes) : Prop := r = .none ∨ ∃ v H, r = .eff v H
theorem Loud.no {r : ARes} (h : Loud r) {v : Value} {nb : Option ABlk} (e : r = .simple v nb) : False := by
  rcases h with h | ⟨x, H, h⟩
  · rw [h] at e; cases e
  · rw [h] at e; cases e
theorem woc : Loud .none := .inl rfl
theorem wgg (v : Value) (H : AH) : Loud (.eff v H) := .inr ⟨v, H, rfl⟩
theorem wee {b : Bool} {r s : ARes} (h : Loud r) (h' : Loud s) : Loud (bif b then r else s) := by cases b <;> assumption
theorem wqeb (v : Value) (o : Option AH) : Loud (effV v o) := by cases o; exact woc; exact wgg _ _
theorem wsub (o : Option AH) : Loud (effU o) := by cases o; exact woc; exact wgg _ _
theorem wbm (own : Bool) (H : AH) (el s : Nat) (cs : List Value) (n : Nat) : Loud (wyh own H el s cs n) := by
  unfold wyh
  exact wee (wee (wgg _ _) woc) (wee (wgg _ _) woc)
theorem loud_app (own : Bool) (H : AH) (el s b : Nat) (x y : Value) : Loud (appA own H el s b x y) := by
  unfold appA
  split
  · unfold wlu
    split
    · exact wgg _ _
    · exact wee (wgg _ _) woc
    · exact wee (wgg _ _) woc
    · unfold wtt; split
      · exact wgg _ _
      · exact woc
  · split
    · unfold wnu
      split
      · exact wee (wbm _ _ _ _ _ _) woc
      · refine wee ?_ woc
        unfold wmu
        refine wee ?_ woc
        split
        · exact wee (wgg _ _) woc
        · exact woc
      · refine wee ?_ woc
        unfold wtq
        refine wee (wqeb _ _) ?_
        split
        · exact wbm _ _ _ _ _ _
        · split
          · exact wbm _ _ _ _ _ _
          · exact woc
      · unfold wllb
        split
        · refine wee ?_ woc
          unfold wpl
          split
          · exact wee (wgg _ _) woc
          · exact woc
        · exact woc
    · exact woc
  · exact woc
theorem wqy {e : Env} {H X : AH} {f : Nat} {i : Ins} {v : Value} {nb : Option ABlk} (hl : looks (some i) = false) (h : insA P e H f i = .simple v nb) : insA P e X f i = .simple v nb ∧ nb = none := by
  cases i with
  | mv x => cases h; exact ⟨rfl, rfl⟩
  | pick c a b =>
    refine ⟨h, ?_⟩
    have : Quiet (wbdb (evl e a) (evl e b) (evl e c)) := by unfold wbdb; split; exact wlc _; exact wlc _; exact wnb
    exact this.nb h
  | new z el => simp [looks] at hl
  | box el x => simp [looks] at hl
  | build z ps =>
    refine ⟨h, ?_⟩
    have : Quiet (weo (wcp z (wo e ps))) := by unfold weo; split; exact wlc _; exact wnb
    exact this.nb h
  | bslice a b c d => simp [looks] at hl
  | load1 x => simp [looks] at hl
  | loadN s x => simp [looks] at hl
  | store s x y =>
    have : Loud (wws H s (evl e x) (evl e y)) := by unfold wws; split; exact wee (wsub _) woc; exact woc
    exact (this.no h).elim
  | nilc x =>
    refine ⟨h, ?_⟩
    have : Quiet (wwcb (evl e x)) := by
      unfold wwcb; split
      · exact wlc _
      · unfold nilcF; split; exact wlc _; exact wnb
    exact this.nb h
  | int2 op x y o =>
    refine ⟨h, ?_⟩
    have : Quiet (wju P e op (evl e x) (evl e y) o) := by
      unfold wju; split
      · unfold wzgb; split
        · exact wlc _
        · exact wne _ _
      · exact wnb
    exact this.nb h
  | ref neg d x y =>
    refine ⟨h, ?_⟩
    have : Quiet (refA neg d (evl e x) (evl e y)) := by
      unfold refA; split
      · exact wlc _
      · exact wlc _
      · exact wlc _
      · exact wsc (wlc _) wnb
      · exact wnb
    exact this.nb h
  | faddr o x => exact ⟨h, (wzl o (evl e x)).nb h⟩
  | iaddrA l s x j =>
    refine ⟨h, ?_⟩
    have : Quiet (wwk l s (evl e x) (evl e j)) := by
      unfold wwk; split
      · exact wsc (wzl _ _) wnb
      · exact wnb
    exact this.nb h
  | iaddrS s x j =>
    refine ⟨h, ?_⟩
    have : Quiet (wej s (evl e x) (evl e j)) := by
      unfold wej; split
      · unfold wzz; split
        · exact wsc wnk wnb
        · unfold wyz; split
          · exact wsc wnk wnb
          · exact wnb
      · exact wnb
    exact this.nb h
  | fld1 o x => exact ⟨h, (wno o (evl e x)).nb h⟩
  | fldN o s x => exact ⟨h, (woo o s (evl e x)).nb h⟩
  | idx1 l s x j =>
    refine ⟨h, ?_⟩
    have : Quiet (wxcb l s (evl e x) (evl e j)) := by
      unfold wxcb; split
      · exact wsc (wno _ _) wnb
      · exact wnb
    exact this.nb h
  | idxN l s x j =>
    refine ⟨h, ?_⟩
    have : Quiet (wycb l s (evl e x) (evl e j)) := by
      unfold wycb; split
      · exact wsc (woo _ _ _) wnb
      · exact wnb
    exact this.nb h
  | slS a b c d g o => simp [looks] at hl
  | slA n s x lo hi =>
    refine ⟨h, ?_⟩
    have : Quiet (slAA e n s (evl e x) lo hi) := by
      unfold slAA; split
      · split
        · exact wam _ _ _ _ _
        · exact wnb
      · exact wnb
    exact this.nb h
  | len x o =>
    refine ⟨h, ?_⟩
    have : Quiet (waab P e (evl e x) o) := by
      unfold waab; split
      · exact wlc _
      · unfold lenF; split
        · exact wlc _
        · exact wne _ _
    exact this.nb h
  | lenM x o => simp [looks] at hl
  | capI x =>
    refine ⟨h, ?_⟩
    have : Quiet (wxnb (evl e x)) := by unfold wxnb; split; exact wlc _; exact wlc _; exact wnb
    exact this.nb h
  | ext x j =>
    refine ⟨h, ?_⟩
    have : Quiet (extA j (evl e x)) := by
      unfold extA; split
      · split; exact wlc _; exact wnb
      · exact wnb
    exact this.nb h
  | iface t x => cases h; exact ⟨rfl, rfl⟩
  | mkfn fn a b => cases h; exact ⟨rfl, rfl⟩
  | app el s b x y => exact ((loud_app e.g.2 H el s b (evl e x) (evl e y)).no h).elim
  | copy s x y =>
    have : Loud (wynb H s (evl e x) (evl e y)) := by
      unfold wynb; split
      · split
        · exact wgg _ _
        · split
          · exact wqeb _ _
          · exact woc
      · exact wgg _ _
      · exact woc
    exact (this.no h).elim
  | mkmap => simp [looks] at hl
  | look a b c d g o => simp [looks] at hl
  | upd kt m k x =>
    have : Loud (updA P H kt (evl e m) (evl e k) (evl e x)) := by
      unfold updA; split
      · split
        · refine wee ?_ woc
          unfold wzx; split
          · split
            · exact wee (wgg _ _) woc
            · exact woc
          · exact wgg _ _
          · exact woc
        · exact woc
      · exact woc
    exact (this.no h).elim
  | mkslice a b c d g j => simp [looks] at hl
  | b2s x o => simp [looks] at hl
  | s2b el x => simp [looks] at hl
  | call g as => cases h
  | dyn g as =>
    exfalso
    simp only [insA] at h
    unfold dynA at h
    split at h
    · rename_i q _ _ _
      cases hq : wen P q with
      | false => rw [hq, cond_false] at h; cases h
      | true => rw [hq, cond_true] at h; cases h
    · cases h
  | usd x => simp [looks] at hl
  | topu x o => simp [looks] at hl
  | frpu u x o => simp [looks] at hl
  | ustr u x n => simp [looks] at hl
  | mknz el x =>
    exfalso
    simp only [insA, wftb] at h
    split at h
    · rename_i n _
      cases hq : Nat.ble (n + 1) 1099511627776 with
      | false => rw [hq, cond_false] at h; cases h
      | true =>
        rw [hq, cond_true] at h
        unfold wik at h
        cases hk : whc H.n with
        | false => rw [hk, cond_false] at h; cases h
        | true => rw [hk, cond_true] at h; cases h
    · cases h
  | gen o => exact ⟨h, (wne e o).nb h⟩
def Agree (H X : AH) (ids : List Nat) : Prop := ∀ id ∈ ids, ∀ b, H.get id = some b → X.get id = some b
theorem wqj {H X : AH} {a : Addr} {n : Nat} {b : CBlk} (h : wdh H a n = some b) (hx : ∀ b, H.get a.block = some b → X.get a.block = some b) : wdh X a n = some b := by
  have := (wve h).1
  unfold wdh at h ⊢
  rw [hx _ this]
  rw [this] at h
  exact h
theorem wzp {H X : AH} {s : Nat} {a : Addr} {n : Nat} (h : whj s a H n = true) (hx : ∀ b, H.get a.block = some b → X.get a.block = some b) : whj s a X n = true := by
  obtain ⟨b, h1, _⟩ := wql h
  have h2 := wqj h1 hx
  unfold whj at h ⊢
  rw [h1] at h
  rw [h2]
  exact h
theorem wdt {u : TypeId} {H : AH} {n : Nat} (o : Option (Nat × Nat × List Value)) {v : Value} {nb : Option ABlk} : wznb P H u n o ≠ .simple v nb := by
  intro h
  unfold wznb wgtb at h
  split at h
  · split at h
    · rename_i k el es _
      cases hq : (Nat.beq k _ && _) with
      | true => rw [hq] at h; cases h
      | false => rw [hq] at h; cases h
    · cases h
  · cases h
theorem wtub {u : TypeId} {H H' : AH} {n : Nat} (o : Option (Nat × Nat × List Value)) {v : Value} (h : wznb P H u n o = .eff v H') : H' = H := by
  unfold wznb wgtb at h
  split at h
  · split at h
    · rename_i k el es _
      cases hq : (Nat.beq k _ && _) with
      | true => rw [hq] at h; cases h; rfl
      | false => rw [hq] at h; cases h
    · cases h
  · cases h
theorem wkf {b : Bool} {r : ARes} {v : Value} {nb : Option ABlk} (h : (bif b then r else .none) = .simple v nb) : b = true ∧ r = .simple v nb := by
  cases b with
  | true => exact ⟨rfl, h⟩
  | false => cases h
theorem wgpb {e : Env} {H X : AH} {f : Nat} {i : Ins} {v : Value} {nb : Option ABlk} (hl : looks (some i) = true) (hx : Agree H X (wfb e i)) (h : insA P e H f i = .simple v nb) : insA P e X f i = .simple v nb := by
  cases i with
  | new z el => exact h
  | box el x => exact h
  | bslice a b c d => exact h
  | mkmap => exact h
  | mkslice a b c d g j => exact h
  | s2b el x => exact h
  | load1 x =>
    simp only [insA, wfb] at h hx ⊢
    generalize evl e x = y at *
    unfold wzk at h ⊢
    split at h
    · rename_i a
      have hx := hx a.block (by simp [idOf])
      split at h
      · rename_i b hb
        simp only [wqj hb hx]
        exact h
      · cases h
    · exact h
  | loadN n x =>
    simp only [insA, wfb] at h hx ⊢
    generalize evl e x = y at *
    unfold wal at h ⊢
    split at h
    · rename_i a
      have hx := hx a.block (by simp [idOf])
      split at h
      · rename_i b hb
        simp only [wqj hb hx]
        exact h
      · cases h
    · exact h
  | slS s x lo hi mx o =>
    simp only [insA, wfb] at h hx ⊢
    generalize evl e x = y at *
    unfold slSA at h ⊢
    split at h
    · rename_i a len c
      have hxa := hx a.block (by simp [idOf])
      split at h
      · rename_i l hh e1 e2
        split at h
        · unfold wwnb at h ⊢
          split at h
          · unfold wzcb at h ⊢
            obtain ⟨h1, h2⟩ := wkf h
            simp only [Bool.and_eq_true] at h1
            rw [h1.1, h1.2.1, wzp h1.2.2 hxa]
            exact h2
          · exact h
          · exact h
        · rename_i y2
          split at h
          · rename_i m z e3
            unfold wyx at h ⊢
            split at h
            · exact h
            · rename_i c' hc'
              unfold wetb at h ⊢
              obtain ⟨h1, h2⟩ := wkf h
              simp only [Bool.and_eq_true] at h1
              have h3 : wvnb X s a len c = true := by
                have := h1.2.2.2
                unfold wvnb at this ⊢
                split at this
                · simp only [Bool.and_eq_true] at this ⊢
                  exact ⟨this.1, wzp this.2 hxa⟩
                · exact this
              rw [h1.1, h1.2.1, h1.2.2.1, h3]
              exact h2
          · cases h
      · cases h
    · exact h
  | lenM x o =>
    simp only [insA, wfb] at h hx ⊢
    generalize evl e x = y at *
    unfold wbab at h ⊢
    split at h
    · rename_i r
      have hx := hx r (by simp [idOf])
      split at h
      · rename_i es hes
        simp only [hx _ hes]
        exact h
      · cases h
    · exact h
  | look kt z ok m k o =>
    simp only [insA, wfb] at h hx ⊢
    generalize evl e m = y at *
    unfold wcab at h ⊢
    split at h
    · rename_i r
      have hx := hx r (by simp [idOf])
      split at h
      · rename_i es hes
        simp only [hx _ hes]
        exact h
      · cases h
    · exact h
  | b2s x o =>
    simp only [insA, wfb] at h hx ⊢
    generalize evl e x = y at *
    unfold b2sA at h ⊢
    split at h
    · exact h
    · rename_i a len c hne
      have hx := hx a.block (by simp [idOf])
      split at h
      · rename_i l hel
        have : wri X 1 len (.slice (some a) len c) = some l := by
          unfold wri at hel ⊢
          dsimp only at hel ⊢
          cases hq : (Nat.ble len len && Nat.blt 0 len) with
          | false => rw [hq, cond_false] at hel; cases hel
          | true =>
            rw [hq, cond_true] at hel
            rw [cond_true]
            split at hel
            · rename_i b hb
              rw [wqj hb hx]
              exact hel
            · cases hel
        simp only [this]
        exact h
      · cases h
    · exact h
  | usd x =>
    simp only [insA, wfb] at h hx ⊢
    generalize evl e x = y at *
    unfold usdA at h ⊢
    split at h
    · rename_i a len
      have hx := hx a.block (by simp [idOf])
      obtain ⟨h1, h2⟩ := wkf h
      simp only [wzp h1 hx, cond_true]
      exact h2
    · exact h
    · exact h
    · exact h
  | topu x o =>
    simp only [insA, wfb] at h hx ⊢
    generalize evl e x = y at *
    unfold wddb at h ⊢
    split at h
    · rename_i a
      have hx := hx a.block (by simp [idOf])
      split at h
      · rename_i b hb
        simp only [wqj hb hx]
        exact h
      · cases h
    · exact h
  | frpu u x o =>
    simp only [insA, wfb] at h hx ⊢
    generalize evl e x = y at *
    unfold wedb at h ⊢
    split at h
    · rename_i a
      have hx := hx a.block (by simp [idOf])
      split at h
      · rename_i b hb
        simp only [wqj hb hx]
        exact h
      · cases h
    · exact h
  | ustr u x n =>
    simp only [insA, wfb] at h hx ⊢
    unfold wchb at h ⊢
    split at h
    · exact h
    · rename_i m _
      split at h
      · split at h
        · rename_i b hb
          obtain ⟨_, h2⟩ := wkf h
          unfold wfdb at h2
          obtain ⟨_, h3⟩ := wkf h2
          cases h3
        · cases h
      · exact absurd h (wdt _)
    · cases h
  | _ => simp [looks] at hl
theorem wzc {b : Bool} {r : ARes} {v : Value} {H : AH} (h : (bif b then r else .none) = .eff v H) : b = true ∧ r = .eff v H := by
  cases b with
  | true => exact ⟨rfl, h⟩
  | false => cases h
def Fr (H H' : AH) (wr : List Nat) : Prop := Low H' ∧ ∀ id, id ∉ wr → id < H.n → H'.get id = H.get id
theorem Fr.refl {H : AH} (h : Low H) (wr : List Nat) : Fr H H wr := ⟨h, fun _ _ _ => rfl⟩
theorem wry {H : AH} (h : Low H) {k : Nat} {b c : ABlk} {wr : List Nat} (hk : whc k = true) (hg : H.get k = some c) (hw : k ∈ wr) : Fr H (H.set k b) wr := by
  refine ⟨fun id d hd => ?_, fun id hid _ => ?_⟩
  · rw [AH.get_set hk] at hd
    rw [AH.set_eq]
    simp only
    split at hd
    · rename_i e; rw [e]; exact h k c hg
    · exact h id d hd
  · rw [AH.get_set hk, if_neg fun e => hid (by rw [e]; exact hw)]
theorem wtib {H : AH} (h : Low H) {b : ABlk} {wr : List Nat} (hk : whc H.n = true) : Fr H (H.push b) wr :=
  ⟨h.push hk b, fun id _ hlt => by rw [AH.get_push hk, if_neg (by omega)]⟩
theorem waq {H H' : AH} {a : Addr} {vs : List Value} {wr : List Nat} (hlow : Low H) (h : wmd H a vs = some H') (hw : a.block ∈ wr) : Fr H H' wr := by
  unfold wmd at h
  split at h
  · rename_i b hb
    cases hq : vs.all oneCell with
    | false => rw [hq, cond_false] at h; cases h
    | true =>
      rw [hq, cond_true] at h
      cases h
      exact wry hlow (wgs hb).2.2.2 (wve (wgs hb).1).1 hw
  · cases h
theorem wxk {own : Bool} {H H' : AH} {el s : Nat} {cs : List Value} {n : Nat} {v : Value} {wr : List Nat} (hlow : Low H) (h : wyh own H el s cs n = .eff v H') : Fr H H' wr := by
  unfold wyh at h
  cases own with
  | true =>
    rw [cond_true] at h
    unfold wut at h
    obtain ⟨h1, h2⟩ := wzc h
    unfold wax at h1
    simp only [Bool.and_eq_true] at h1
    cases h2
    exact wtib hlow h1.2.2
  | false =>
    rw [cond_false] at h
    unfold wik at h
    obtain ⟨h1, h2⟩ := wzc h
    cases h2
    exact wtib hlow h1
theorem whpb {e : Env} {H H' : AH} {f : Nat} {i : Ins} {v : Value} (hlow : Low H) (h : insA P e H f i = .eff v H') : Fr H H' (web e i) := by
  have quiet : ∀ {r : ARes}, Quiet r → r = .eff v H' → Fr H H' (web e i) := by
    intro r h1 h2
    rcases h1 with h1 | ⟨x, h1⟩
    · rw [h1] at h2; cases h2
    · rw [h1] at h2; cases h2
  cases i with
  | store s x y =>
    simp only [insA, web] at h ⊢
    generalize evl e x = u at *
    unfold wws at h
    split at h
    · rename_i a
      obtain ⟨_, h2⟩ := wzc h
      cases hst : wmd H a (evl e y).cells.toList with
      | none => rw [hst] at h2; cases h2
      | some H2 => rw [hst] at h2; cases h2; exact waq hlow hst (by simp [idOf])
    · cases h
  | app el s b x y =>
    simp only [insA, web] at h ⊢
    generalize evl e x = u at *
    generalize evl e y = w at *
    unfold appA at h
    split at h
    · unfold wlu at h
      split at h
      · cases h; exact .refl hlow _
      · obtain ⟨_, h2⟩ := wzc h; cases h2; exact .refl hlow _
      · obtain ⟨_, h2⟩ := wzc h; cases h2; exact .refl hlow _
      · unfold wtt at h
        split at h
        · cases h; exact .refl hlow _
        · cases h
    · split at h
      · rename_i new _
        unfold wnu at h
        split at h
        · obtain ⟨_, h2⟩ := wzc h; exact wxk hlow h2
        · rename_i a len
          obtain ⟨_, h2⟩ := wzc h
          unfold wmu at h2
          obtain ⟨_, h3⟩ := wzc h2
          split at h3
          · rename_i bb hbb
            obtain ⟨h4, h5⟩ := wzc h3
            unfold wmlb at h4
            simp only [Bool.and_eq_true] at h4
            cases h5
            exact wry hlow h4.1.2.2.2.2 (wve hbb).1 (by simp [idOf])
          · cases h3
        · rename_i a len c
          obtain ⟨_, h2⟩ := wzc h
          unfold wtq at h2
          cases hq : Nat.ble (len + _) c with
          | true =>
            rw [hq, cond_true] at h2
            cases hst : wmd H ⟨a.block, a.off + len * s, a.spot⟩ new with
            | none => rw [hst] at h2; cases h2
            | some H2 => rw [hst] at h2; cases h2; exact waq hlow hst (by simp [idOf])
          | false =>
            rw [hq, cond_false] at h2
            split at h2
            · exact wxk hlow h2
            · split at h2
              · exact wxk hlow h2
              · cases h2
        · unfold wllb at h
          split at h
          · rename_i q hq
            obtain ⟨_, h2⟩ := wzc h
            unfold wpl at h2
            split at h2
            · rename_i hget
              obtain ⟨h4, h5⟩ := wzc h2
              unfold wip at h4
              simp only [Bool.and_eq_true] at h4
              cases h5
              rw [whu hq]
              exact wry hlow h4.2.2.2.2.2.2 hget (by simp [idOf, FO])
            · cases h2
          · cases h
      · cases h
    · cases h
  | copy s x y =>
    simp only [insA, web] at h ⊢
    generalize evl e x = u at *
    unfold wynb at h
    split at h
    · rename_i a dl dc xl _
      split at h
      · cases h; exact .refl hlow _
      · split at h
        · rename_i cs _
          cases hst : wmd H a cs with
          | none => rw [hst] at h; cases h
          | some H2 => rw [hst] at h; cases h; exact waq hlow hst (by simp [idOf])
        · cases h
    · cases h; exact .refl hlow _
    · cases h
  | upd kt m k x =>
    simp only [insA, web] at h ⊢
    generalize evl e m = u at *
    unfold updA at h
    split at h
    · rename_i r
      split at h
      · rename_i hget
        obtain ⟨h1, h2⟩ := wzc h
        simp only [Bool.and_eq_true] at h1
        unfold wzx at h2
        split at h2
        · split at h2
          · obtain ⟨_, h3⟩ := wzc h2; cases h3; exact wry hlow h1.2 hget (by simp [idOf])
          · cases h2
        · cases h2; exact wry hlow h1.2 hget (by simp [idOf])
        · cases h2
      · cases h
    · cases h
  | ustr u x n =>
    simp only [insA, web] at h ⊢
    generalize evl e x = y at *
    unfold wchb at h
    split at h
    · split at h <;> cases h
    · split at h
      · rename_i a
        split at h
        · rename_i bb hbb
          obtain ⟨_, h2⟩ := wzc h
          unfold wfdb at h2
          obtain ⟨h3, h4⟩ := wzc h2
          simp only [Bool.and_eq_true] at h3
          cases h4
          exact wry hlow h3.2.2 (wve hbb).1 (by simp [idOf])
        · cases h
      · rw [wtub _ h]
        exact Fr.refl hlow _
    · cases h
  | mknz el x =>
    simp only [insA, wftb] at h
    split at h
    · obtain ⟨_, h2⟩ := wzc h
      unfold wik at h2
      obtain ⟨h3, h4⟩ := wzc h2
      cases h4
      exact wtib hlow h3
    · cases h
  | mv x => cases h
  | pick c a b => simp only [insA, wbdb] at h; split at h <;> cases h
  | new z el => cases h
  | box el x => simp only [insA] at h; cases hj : isJK (evl e x) <;> (rw [hj] at h; cases h)
  | build z ps => simp only [insA, weo] at h; split at h <;> cases h
  | bslice a b c d => simp only [insA, wou] at h; split at h <;> cases h
  | load1 x => exact quiet (wov H (evl e x)) h
  | loadN s x => exact quiet (wpv H s (evl e x)) h
  | nilc x =>
    simp only [insA, wwcb] at h
    split at h
    · cases h
    · unfold nilcF at h; split at h <;> cases h
  | int2 op x y o =>
    simp only [insA, wju] at h
    split at h
    · unfold wzgb at h
      split at h
      · cases h
      · exact quiet (wne e o) h
    · cases h
  | ref neg d x y =>
    simp only [insA, refA] at h
    split at h <;> first | (cases h; done) | (obtain ⟨_, h2⟩ := wzc h; cases h2)
  | faddr o x => exact quiet (wzl o (evl e x)) h
  | iaddrA l s x j =>
    simp only [insA, wwk] at h
    split at h
    · obtain ⟨_, h2⟩ := wzc h; exact quiet (wzl _ _) h2
    · cases h
  | iaddrS s x j =>
    simp only [insA, wej] at h
    split at h
    · unfold wzz at h
      split at h
      · obtain ⟨_, h2⟩ := wzc h; rw [wtd] at h2; cases h2
      · unfold wyz at h
        split at h
        · obtain ⟨_, h2⟩ := wzc h; rw [wtd] at h2; cases h2
        · cases h
    · cases h
  | fld1 o x => exact quiet (wno o (evl e x)) h
  | fldN o s x => exact quiet (woo o s (evl e x)) h
  | idx1 l s x j =>
    simp only [insA, wxcb] at h
    split at h
    · obtain ⟨_, h2⟩ := wzc h; exact quiet (wno _ _) h2
    · cases h
  | idxN l s x j =>
    simp only [insA, wycb] at h
    split at h
    · obtain ⟨_, h2⟩ := wzc h; exact quiet (woo _ _ _) h2
    · cases h
  | slS s x lo hi mx o => exact quiet (wemb e H s (evl e x) lo hi mx o) h
  | slA n s x lo hi =>
    simp only [insA, slAA] at h
    split at h
    · split at h
      · exact quiet (wam _ _ _ _ _) h
      · cases h
    · cases h
  | len x o =>
    simp only [insA, waab] at h
    split at h
    · cases h
    · unfold lenF at h
      split at h
      · cases h
      · exact quiet (wne e o) h
  | lenM x o =>
    simp only [insA, wbab] at h
    split at h
    · split at h <;> cases h
    · exact quiet (wne e o) h
  | capI x => simp only [insA, wxnb] at h; split at h <;> cases h
  | ext x j =>
    simp only [insA, extA] at h
    split at h
    · split at h <;> cases h
    · cases h
  | iface t x => cases h
  | mkfn fn a b => cases h
  | mkmap => cases h
  | look kt z ok m k o => exact quiet (wpy e H kt z ok (evl e m) (evl e k) o) h
  | mkslice a b c d g j =>
    simp only [insA, wvt] at h
    split at h
    · obtain ⟨_, h2⟩ := wzc h; cases h2
    · cases h
  | b2s x o => exact quiet (wpeb e H (evl e x) o) h
  | s2b el x => simp only [insA, s2bA] at h; split at h <;> cases h
  | call g as => cases h
  | dyn g as =>
    simp only [insA, dynA] at h
    split at h
    · obtain ⟨_, h2⟩ := wzc h; cases h2
    · cases h
  | usd x =>
    simp only [insA, usdA] at h
    split at h
    · obtain ⟨_, h2⟩ := wzc h; cases h2
    · cases h
    · cases h
    · unfold usdF at h
      split at h
      · obtain ⟨_, h2⟩ := wzc h; cases h2
      · cases h
  | topu x o =>
    simp only [insA, wddb] at h
    split at h
    · split at h <;> cases h
    · exact quiet (wne e o) h
  | frpu u x o =>
    simp only [insA, wedb] at h
    split at h
    · split at h
      · obtain ⟨_, h2⟩ := wzc h; cases h2
      · cases h
    · exact quiet (wne e o) h
  | gen o => exact quiet (wne e o) h
end
end Go.Den
namespace Go.Den
noncomputable section
variable {P : Program} {G : Nat → Option (List Value)}
def Step1 (P : Program) (cs : wnc) (ops : Array Oper) (k : Nat) (o : Oper) (x : Tr) (e : Env) (H : AH) (e' : Env) (H' : AH) : Prop :=
  x.i = k ∧ x.o = wek P ops o ∧ x.e = e ∧ x.h = H ∧ x.id = H.n ∧ gsel (wdd ops o.guard) e = some x.want ∧ e' = e.put o.dst x.v ∧
    ((x.want = false ∧ x.v = undef ∧ x.nb = none ∧ x.eff = none ∧ H' = H) ∨
     (x.want = true ∧ ∃ b, wls P cs e H (comp P o) = .did x.v x.nb b H' x.wr ∧ x.eff = if b then some H' else none))
def Chain (P : Program) (cs : wnc) (ops : Array Oper) : Nat → List Oper → List Tr → Env → AH → Env → AH → Prop
  | _, [], [], e, H, e2, H2 => e2 = e ∧ H2 = H
  | k, o :: r, x :: l, e, H, e2, H2 => ∃ e' H', Step1 P cs ops k o x e H e' H' ∧ Chain P cs ops (k + 1) r l e' H' e2 H2
  | _, _, _, _, _, _, _ => False
theorem wrn {cs : wnc} (hrec : CSOK P G cs) {e : Env} {H : AH} {ins : Option Ins} {v : Value} {nb : Option ABlk} {b : Bool} {H' : AH} {wr : List Nat} (h : wls P cs e H ins = .did v nb b H' wr) :
    ∃ i, ins = some i ∧ ((nb = none ∧ b = false ∧ H' = H ∧ insA P e H H.n i = .simple v none) ∨ (∃ blk, nb = some blk ∧ b = false ∧ whc H.n = true ∧ H' = H.push blk ∧ insA P e H H.n i = .simple v (some blk)) ∨
      (nb = none ∧ b = true ∧ H.n ≤ H'.n ∧ (Low H → Fr H H' wr))) := by
  cases ins with
  | none => cases h
  | some i =>
    refine ⟨i, rfl, ?_⟩
    change wrh cs (web e i) H (insA P e H H.n i) = _ at h
    cases hr : insA P e H H.n i with
    | none => rw [hr] at h; cases h
    | simple u ub =>
      rw [hr] at h
      cases ub with
      | none => cases h; exact .inl ⟨rfl, rfl, rfl, rfl⟩
      | some blk =>
        simp only [wrh] at h
        cases hk : whc H.n with
        | false => rw [hk, cond_false] at h; cases h
        | true => rw [hk, cond_true] at h; cases h; exact .inr (.inl ⟨blk, rfl, rfl, rfl, rfl, rfl⟩)
    | eff u H2 =>
      rw [hr] at h
      simp only [wrh] at h
      cases hk : Nat.ble H.n H2.n with
      | false => rw [hk, cond_false] at h; cases h
      | true =>
        rw [hk, cond_true] at h
        cases h
        exact .inr (.inr ⟨rfl, rfl, Nat.le_of_ble_eq_true hk, fun hlow => whpb hlow hr⟩)
    | call f args =>
      rw [hr] at h
      simp only [wrh] at h
      obtain ⟨h1, h2, h3⟩ := hrec _ _ _ _ _ _ _ _ h
      exact .inr (.inr ⟨h1, h2, h3.n, h3.frame⟩)
theorem Step1.mono {cs : wnc} (hrec : CSOK P G cs) {ops : Array Oper} {k : Nat} {o : Oper} {x : Tr} {e e' : Env} {H H' : AH} (h : Step1 P cs ops k o x e H e' H') : H.n ≤ H'.n := by
  obtain ⟨_, _, _, _, _, _, _, h⟩ := h
  rcases h with ⟨_, _, _, _, rfl⟩ | ⟨_, b, hs, _⟩
  · exact Nat.le_refl _
  · obtain ⟨i, _, hc⟩ := wrn hrec hs
    rcases hc with ⟨_, _, rfl, _⟩ | ⟨blk, _, _, _, rfl, _⟩ | ⟨_, _, h, _⟩
    · exact Nat.le_refl _
    · rw [wei]; omega
    · exact h
theorem Step1.quiet {cs : wnc} (hrec : CSOK P G cs) {ops : Array Oper} {k : Nat} {o : Oper} {x : Tr} {e e' : Env} {H H' : AH} (h : Step1 P cs ops k o x e H e' H') (he : x.eff = none) :
    (x.nb = none ∧ H' = H) ∨ ∃ blk, x.nb = some blk ∧ whc H.n = true ∧ H' = H.push blk := by
  obtain ⟨_, _, _, _, _, _, _, h⟩ := h
  rcases h with ⟨_, _, h1, _, rfl⟩ | ⟨_, b, hs, hb⟩
  · exact .inl ⟨h1, rfl⟩
  · obtain ⟨i, _, hc⟩ := wrn hrec hs
    rcases hc with ⟨h1, _, h2, _⟩ | ⟨blk, h1, _, h2, h3, _⟩ | ⟨_, h2, _⟩
    · exact .inl ⟨h1, h2⟩
    · exact .inr ⟨blk, h1, h2, h3⟩
    · rw [h2] at hb; rw [hb] at he; cases he
theorem Step1.eff_some {cs : wnc} (hrec : CSOK P G cs) {ops : Array Oper} {k : Nat} {o : Oper} {x : Tr} {e e' : Env} {H H' G2 : AH} (h : Step1 P cs ops k o x e H e' H') (he : x.eff = some G2) : G2 = H' ∧ x.nb = none ∧ x.want = true ∧ ∃ i, comp P o = some i ∧ wls P cs e H (comp P o) = .did x.v none true H' x.wr ∧ (Low H → Fr H H' x.wr) := by
  obtain ⟨_, _, _, _, _, _, _, h⟩ := h
  rcases h with ⟨_, _, _, h1, _⟩ | ⟨hw, b, hs, hb⟩
  · rw [he] at h1; cases h1
  · cases b with
    | false => rw [he] at hb; cases hb
    | true =>
      rw [he] at hb
      cases hb
      obtain ⟨i, hi, hc⟩ := wrn hrec hs
      have hn : x.nb = none ∧ (Low H → Fr H H' x.wr) := by
        rcases hc with ⟨_, h2, _⟩ | ⟨_, _, h2, _⟩ | ⟨h2, _, _, h3⟩
        · cases h2
        · cases h2
        · exact ⟨h2, h3⟩
      rw [hn.1] at hs
      exact ⟨rfl, hn.1, hw, i, hi, hs, hn.2⟩
theorem Chain.moments {cs : wnc} {ops : Array Oper} : ∀ (l : List Oper) (k : Nat) (tr : List Tr) (e : Env) (H : AH) (e2 : Env) (H2 : AH), Chain P cs ops k l tr e H e2 H2 →
    tr.length = l.length ∧ ∃ (E : Nat → Env) (Hs : Nat → AH), E k = e ∧ Hs k = H ∧ E (k + l.length) = e2 ∧ Hs (k + l.length) = H2 ∧
      ∀ (m : Nat) (o : Oper), l[m]? = some o → ∃ x, tr[m]? = some x ∧ Step1 P cs ops (k + m) o x (E (k + m)) (Hs (k + m)) (E (k + m + 1)) (Hs (k + m + 1)) := by
  intro l
  induction l with
  | nil =>
    intro k tr e H e2 H2 h
    cases tr with
    | nil => obtain ⟨rfl, rfl⟩ := h; exact ⟨rfl, fun _ => e2, fun _ => H2, rfl, rfl, rfl, rfl, fun m o hm => by simp at hm⟩
    | cons x l => exact h.elim
  | cons o r ih =>
    intro k tr e H e2 H2 h
    cases tr with
    | nil => exact h.elim
    | cons x l =>
      obtain ⟨e', H', h1, h2⟩ := h
      obtain ⟨h3, E, Hs, h4, h5, h6, h7, h8⟩ := ih _ _ _ _ _ _ h2
      refine ⟨by simp [h3], fun j => if j = k then e else E j, fun j => if j = k then H else Hs j, by simp, by simp, ?_, ?_, ?_⟩
      · have : ¬ (k + (o :: r).length = k) := by simp
        simp only [this, if_false]
        rw [← h6]; congr 1; simp; omega
      · have : ¬ (k + (o :: r).length = k) := by simp
        simp only [this, if_false]
        rw [← h7]; congr 1; simp; omega
      · intro m o' hm
        cases m with
        | zero =>
          simp at hm
          subst hm
          refine ⟨x, rfl, ?_⟩
          have : ¬ (k + 1 = k) := by omega
          simp only [Nat.add_zero, if_true, this, if_false, h4, h5]
          exact h1
        | succ m =>
          obtain ⟨y, h9, h10⟩ := h8 m o' (by simpa using hm)
          refine ⟨y, by simpa using h9, ?_⟩
          have e1 : ¬ (k + (m + 1) = k) := by omega
          have e2 : ¬ (k + (m + 1) + 1 = k) := by omega
          simp only [e1, e2, if_false]
          rw [show k + (m + 1) = k + 1 + m by omega]
          exact h10
end
end Go.Den
