/-
  THE ENGINE, part N: append whole, copy, maps, calls; and every ready operation.
-/
import Derived.Test.YtjihbfdbgamcdaaGreatDoorE2Ma
namespace Go.Den
noncomputable section

variable {P : Program}

theorem effV_none {ρ : Ren} {B : Nat} {H : AH} {w : World} {s : Sem Next} {fresh : Nat} {v : Value} : ResOK P ρ B H w s fresh (effV v none) := trivial

theorem exact_len {ρ : Ren} {a : Addr} {len c : Nat} {v : Value} (h : VR ρ (.slice (some a) len (c + 1)) v) : ∃ a', v = .slice (some a') len c := by
  cases h with
  | flat h => simp [Go.Den.flat] at h
  | sliceExact h => exact ⟨_, rfl⟩
  | sliceNo => exact ⟨_, rfl⟩

theorem appNone_sound {ρ : Ren} {B : Nat} {H : AH} {w : World} (hR : Rel ρ B H w) {at_ : Array TypeId} {ty elem : TypeId} {ti : TypeInfo} {z : Value} (hT : AppTys P at_ elem ti z) {fresh : Nat} {s s' x' : Value} (hs : VR ρ s s') (hn : (Builtin.lenOf x').run P w = .ok 0 w)
    (hnew : (Builtin.firstCells ti.size 0 x').run P w = .ok #[] w) : ResOK P ρ B H w (vNext (Builtin.append_ at_ ty #[s', x'])) fresh (appNone H ti.size s) := by
  have fin : ∀ (a : Addr) (len c : Nat), s' = .slice (some a) len c → len ≤ c → (vNext (Builtin.append_ at_ ty #[s', x'])).run P w = .ok (.value s') w := by
    intro a len c e h
    subst e
    have := app_room (ty := ty) hT (a := a) (len := len) (cap := c) (w' := w) hn hnew (by omega) (by simp [storeCells])
    rw [run_vNext, this]
    rfl
  have out : (vNext (Builtin.append_ at_ ty #[s', x'])).run P w = .ok (.value s') w → ResOK P ρ B H w (vNext (Builtin.append_ at_ ty #[s', x'])) fresh (.eff s H) :=
    fun h _ => ⟨_, s', w, ρ, h, rfl, hs, hR, .refl ρ H w⟩
  unfold appNone
  split
  · refine out ?_
    rw [hs.of_flat rfl]
    obtain ⟨st, xt, d, h1, h2, h3, h4, h5⟩ := hT.ex
    rw [run_vNext]
    rcases h5 with ⟨e2, rfl⟩ | rfl <;> simp [Builtin.append_, h1, h3, run_under h2, run_size hT.info, hn, hnew, run_under h4]
  · rename_i a len
    cases hq : openOk ti.size a H ((len + 1) * ti.size) with
    | false => rw [cond_false]; trivial
    | true =>
      rw [cond_true]
      obtain ⟨l, g1, g2⟩ := hs.slice_inv (.inl (by omega))
      obtain ⟨r1, r2, r3, r4⟩ := open_room hR hq g1
      exact out (fin _ _ _ g2 (by simp only [capOf, r1]; omega))
  · rename_i a len c
    cases hq : Nat.ble len c with
    | false => rw [cond_false]; trivial
    | true =>
      rw [cond_true]
      have hq' := Nat.le_of_ble_eq_true hq
      obtain ⟨a', g2⟩ := exact_len hs
      exact out (fin _ _ _ g2 hq')
  · unfold appNoneF
    split
    · rename_i q hq
      refine out ?_
      rcases hs.row_inv hq with ⟨a', c', h1, h2, h3⟩ | ⟨b, o, c', f, g1, g0, g2, g3⟩
      · cases a' with
        | none =>
          rw [h3]
          obtain ⟨st, xt, d, h1, h2, h3, h4, h5⟩ := hT.ex
          rw [run_vNext]
          rcases h5 with ⟨e2, rfl⟩ | rfl <;> simp [Builtin.append_, h1, h3, run_under h2, run_size hT.info, hn, hnew, run_under h4]
        | some a' => exact fin _ _ _ h3 (Nat.zero_le _)
      · exact fin _ _ _ g1 g0
    · trivial

theorem drew_rel {ρ : Ren} {B : Nat} {H : AH} {w : World} (hR : Rel ρ B H w) : Rel ρ B H w.drew :=
  ⟨fun id ver l b h1 h3 => (hR.blk id ver l b h1 h3).keep (.refl ρ) rfl, hR.wf, hR.low, hR.sep, hR.bnd, hR.base, ⟨hR.fz.cell, hR.fz.sep⟩⟩

theorem appExact_sound {own : Bool} {ρ : Ren} {B : Nat} {H : AH} {w : World} (hR : Rel ρ B H w) {at_ : Array TypeId} {ty elem : TypeId} {ti : TypeInfo} {z : Value} (hT : AppTys P at_ elem ti z) {fresh n len c : Nat} {a : Addr} {s' x' : Value} {new : List Value}
    (hs : VR ρ (.slice (some a) len (c + 1)) s') (hlc : len ≤ c) (hpos : 0 < n) (hn : (Builtin.lenOf x').run P w = .ok n w) (hnl : new.length = n * ti.size) (hnew : ∀ w2 : World, w2.heap = w.heap → ∃ cs : Array Value, (Builtin.firstCells ti.size n x').run P w2 = .ok cs w2 ∧ VRL ρ new cs.toList)
    (hb : roomy (len + n) ti.bytes = true) : ResOK P ρ B H w (vNext (Builtin.append_ at_ ty #[s', x'])) fresh (appExact own H elem ti.size (.slice (some a) len (c + 1)) a len c n new) := by
  unfold appExact
  cases hq : Nat.ble (len + n) c with
  | true =>
    rw [cond_true]
    have hroom : len + n ≤ c := Nat.le_of_ble_eq_true hq
    cases hst : storeCellsA H ⟨a.block, a.off + len * ti.size, a.spot⟩ new with
    | none => exact effV_none
    | some H' =>
      intro _
      rcases Nat.eq_zero_or_pos c with hc0 | hc0
      · have hn0 : n = 0 := by omega
        have hl0 : len = 0 := by omega
        subst hc0; subst hn0; subst hl0
        exact absurd hpos (by omega)
      · obtain ⟨l, g1, g2⟩ := hs.slice_inv (.inr (by omega))
        subst g2
        simp only [capOf]
        obtain ⟨cs, c1, c2⟩ := hnew w rfl
        obtain ⟨r1, r2, r3⟩ := store_row (P := P) hR hst (l := l) g1 c2
        have hrun := app_room (ty := ty) hT (a := ⟨l.block, a.off, none⟩) (len := len) (cap := c) hn c1 hroom (by rw [addr_add]; exact r1)
        exact ⟨_, _, _, ρ, by rw [run_vNext, hrun]; rfl, rfl, .sliceExact g1, r2, r3⟩
  | false =>
    rw [cond_false]
    have hgrow : c < len + n := by
      rcases Nat.lt_or_ge c (len + n) with h | h
      · exact h
      · rw [Nat.ble_eq_true_of_le h] at hq; cases hq
    obtain ⟨cs, c1, c2⟩ := hnew w.drew rfl
    obtain ⟨a0, g0⟩ := exact_len hs
    split
    · rw [g0]
      have hrun := app_grow (ty := ty) hT (base := some a0) (len := 0) (cap := c) (w := w) (old := #[]) hn (by simpa [Builtin.firstCells] using run_loadCells (P := P) w.drew a0 0 (fun _ => undef) (by intro j hj; omega)) c1 (by omega) hb
      rw [Nat.zero_add] at hrun
      simp only [Array.empty_append] at hrun
      exact freshAny_ok hR hT.size hT.pos hnl (grownCap_ge _ _ _ _) c2 (by rw [run_vNext, hrun]; rfl)
    · rename_i len
      obtain ⟨l, g1, g2⟩ := hs.slice_inv (.inl (by omega))
      split
      · rename_i old hold
        obtain ⟨d1, d2⟩ := elems_run (P := P) (drew_rel hR) hs hold
        obtain ⟨olds, d3, d4⟩ := d2 w.drew rfl
        subst g2
        simp only [capOf]
        have hrun := app_grow (ty := ty) hT (base := some ⟨l.block, a.off, none⟩) (len := len + 1) (cap := c) (w := w) hn (by simpa [capOf] using d3) c1 (by omega) hb
        refine freshAny_ok hR hT.size hT.pos (by rw [List.length_append, d1, hnl]; simp [Nat.add_mul]) (grownCap_ge _ _ _ _) (arr := olds ++ cs) (by rw [Array.toList_append]; exact d4.append c2) (by rw [run_vNext, hrun]; rfl)
      · trivial

theorem first0_run {ρ : Ren} {x x' : Value} {n size : Nat} (hx : VR ρ x x') (h0 : lenA x = some n) (w : World) : (Builtin.firstCells size 0 x').run P w = .ok #[] w := by
  have hl : ∀ a : Addr, (loadCells a 0).run P w = .ok #[] w := fun a => by simpa using run_loadCells (P := P) w a 0 (fun _ => undef) (by intro j hj; omega)
  unfold lenA at h0
  split at h0
  · rename_i b m c
    cases b with
    | none => rw [hx.of_flat rfl]; simp [Builtin.firstCells]
    | some b => obtain ⟨_, _, rfl⟩ := hx.slice_len; simp [Builtin.firstCells, hl]
  · rw [hx.string_inv]; simp [Builtin.firstCells]
  · unfold lenAF at h0
    split at h0
    · rename_i q hq
      obtain ⟨a', _, rfl⟩ := hx.row_len hq
      cases a' <;> simp [Builtin.firstCells, hl]
    · cases h0

theorem app_sound {own : Bool} {ρ : Ren} {B : Nat} {H : AH} {w : World} (hR : Rel ρ B H w) {at_ : Array TypeId} {ty elem : TypeId} {ti : TypeInfo} {z : Value} (hT : AppTys P at_ elem ti z) {fresh : Nat} {s s' x x' : Value} (hs : VR ρ s s') (hx : VR ρ x x') :
    ResOK P ρ B H w (vNext (Builtin.append_ at_ ty #[s', x'])) fresh (appA own H elem ti.size ti.bytes s x) := by
  unfold appA
  split
  · rename_i h0
    refine appNone_sound hR hT hs (lenA_run hx h0 w) ?_
    have hl : ∀ a : Addr, (loadCells a 0).run P w = .ok #[] w := fun a => by simpa using run_loadCells (P := P) w a 0 (fun _ => undef) (by intro j hj; omega)
    exact first0_run hx h0 w
  · rename_i n hn0 h0
    split
    · rename_i new hnew
      obtain ⟨e1, e2⟩ := elems_run (P := P) hR hx hnew
      have hn := lenA_run (P := P) hx h0 w
      unfold appOnto
      split
      · cases hq : roomy n ti.bytes with
        | false => rw [cond_false]; trivial
        | true =>
          rw [cond_true]
          rw [hs.of_flat rfl]
          obtain ⟨cs, c1, c2⟩ := e2 w.drew rfl
          have hpos : 0 < n := by
            cases n with
            | zero => exact absurd rfl hn0
            | succ n => omega
          have hrun := app_grow (ty := ty) hT (base := none) (len := 0) (cap := 0) (w := w) (old := #[]) hn (by simp [Builtin.firstCells]) c1 (by omega) (by rw [Nat.zero_add]; exact hq)
          rw [Nat.zero_add] at hrun
          simp only [Array.empty_append] at hrun
          exact freshAny_ok hR hT.size hT.pos e1 (grownCap_ge _ _ _ _) c2 (by rw [run_vNext, hrun]; rfl)
      · rename_i a len
        cases hq : roomy (len + n) ti.bytes with
        | false => rw [cond_false]; trivial
        | true => rw [cond_true]; exact appOpen_sound hR hT hs hn e1 e2 hq
      · rename_i a len c
        cases hq : (roomy (len + n) ti.bytes && Nat.ble len c) with
        | false => rw [cond_false]; trivial
        | true =>
          rw [cond_true]
          simp only [Bool.and_eq_true, Nat.ble_eq] at hq
          have hpos : 0 < n := by
            cases n with
            | zero => exact absurd rfl hn0
            | succ n => omega
          exact appExact_sound hR hT hs hq.2 hpos hn e1 e2 hq.1
      · unfold appTok
        split
        · rename_i q hq0
          rw [asFO_some hq0] at hs
          cases hq : roomy (q.2.1 + n) ti.bytes with
          | false => rw [cond_false]; trivial
          | true =>
            rw [cond_true]
            have hpos : 0 < n := by
              cases n with
              | zero => exact absurd rfl hn0
              | succ n => omega
            exact appTok2_sound hR hT hs hpos hn (by rw [nfL_length]; exact e1) (fun w2 h => by
              obtain ⟨cs, c1, c2⟩ := e2 w2 h
              exact ⟨cs, c1, nfL_rel _ _ c2⟩) hq
        · trivial
    · trivial
  · trivial

theorem call2_ex {a : Act} {o : Oper} {c : Call} {x y : Operand} {b : Builtin} (ho : o.op = .call c) (hcal : c.callee = .builtin b) (hargs : c.args.toList = [x, y]) {f : Array TypeId → TypeId → Array Value → Sem Value}
    (hb : ∀ at_ t cs vs, builtin b at_ t cs vs = vNext (f at_ t vs)) : execOp a.eval o = vNext (f c.argTypes o.type #[a.eval x, a.eval y]) := by
  obtain ⟨callee, args, at_⟩ := c
  simp only at hcal hargs
  subst hcal
  have hargs' : args = #[x, y] := by apply Array.ext'; simpa using hargs
  subst hargs'
  simp only [execOp, ho, resolve]
  simp [invoke, hb]

/-- copy -/
theorem copy_sound {ρ : Ren} {B : Nat} {H : AH} {w : World} (hR : Rel ρ B H w) {at_ : Array TypeId} {ty st elem : TypeId} {ti : TypeInfo} (h1 : at_[0]? = some st) (h2 : tyU P st = some (.slice elem)) (h3 : tyInfo P elem = some ti) {fresh : Nat} {d d' x x' : Value} (hd : VR ρ d d') (hx : VR ρ x x') :
    ResOK P ρ B H w (vNext (Builtin.copy_ at_ ty #[d', x'])) fresh (copyA H ti.size d x) := by
  unfold copyA
  split
  · rename_i a dl dc xl hxl
    have hn := lenA_run (P := P) hx hxl w
    split
    · rename_i hmin
      obtain ⟨a', c', g⟩ := hd.slice_len
      subst g
      intro _
      have hmin' : Nat.min xl dl = 0 := hmin
      have hfc := first0_run (P := P) (size := ti.size) hx hxl w
      refine ⟨.value (.int .i64 0), .int .i64 0, w, ρ, ?_, rfl, .flat rfl, hR, .refl ρ H w⟩
      rw [run_vNext]
      simp [Builtin.copy_, h1, run_under h2, run_size h3, hn, hmin', hfc, storeCells, goInt]
    · rename_i n hn0
      split
      · rename_i cs hcs
        obtain ⟨e1, e2⟩ := elems_run (P := P) hR hx hcs
        cases hst : storeCellsA H a cs with
        | none => exact effV_none
        | some H' =>
          intro _
          have hpos : 0 < dl := by
            rcases Nat.eq_zero_or_pos dl with h | h
            · exact absurd (show Nat.min xl dl = 0 by rw [h]; exact Nat.min_zero xl) hn0
            · exact h
          obtain ⟨l, g1, g2⟩ := hd.slice_inv (.inl hpos)
          subst g2
          obtain ⟨arr, c1, c2⟩ := e2 w rfl
          obtain ⟨r1, r2, r3⟩ := store_row (P := P) hR hst g1 c2
          refine ⟨.value (.int .i64 (Nat.min xl dl : Nat)), .int .i64 (Nat.min xl dl : Nat), _, ρ, ?_, rfl, .flat rfl, r2, r3⟩
          rw [run_vNext]
          simp [Builtin.copy_, h1, run_under h2, run_size h3, hn, c1, r1, goInt]
      · trivial
  · rename_i xl hxl
    intro _
    have hn := lenA_run (P := P) hx hxl w
    have hfc := first0_run (P := P) (size := ti.size) hx hxl w
    refine ⟨.value (.int .i64 0), .int .i64 0, w, ρ, ?_, rfl, .flat rfl, hR, .refl ρ H w⟩
    rw [run_vNext, hd.of_flat rfl]
    simp [Builtin.copy_, h1, run_under h2, run_size h3, hn, hfc, goInt]
  · trivial

/- MAPS -/

theorem pureRun_bind {α β : Type} (x : Sem α) (f : α → Sem β) : pureRun P (x >>= f) = (pureRun P x).bind fun a => pureRun P (f a) := by
  show pureRun P (x.bind f) = _
  induction x with
  | pure a => rfl
  | program k ih => exact ih P
  | mark m k ih => exact ih
  | choose q k ih =>
    simp only [Sem.bind, pureRun]
    split
    · exact ih 0
    · rfl
  | _ => rfl

/-- Two rows of entries with the same keys. -/
def Keys (es : List (Value × Value)) (ms : List MapEntry) : Prop := ms.length = es.length ∧ ∀ (i : Nat) (e : Value × Value) (m : MapEntry), es[i]? = some e → ms[i]? = some m → m.key = e.1

theorem Keys.cons {e : Value × Value} {es : List (Value × Value)} {ms : List MapEntry} (h : Keys (e :: es) ms) : ∃ m r, ms = m :: r ∧ m.key = e.1 ∧ Keys es r := by
  cases ms with
  | nil => have := h.1; simp at this
  | cons m r => exact ⟨m, r, rfl, h.2 0 e m rfl rfl, by have := h.1; simpa using this, fun i e' m' a b => h.2 (i + 1) e' m' (by simpa using a) (by simpa using b)⟩

/-- What a search in one answers, and in the other. -/
def Found (j : Nat) (es : List (Value × Value)) (ms : List MapEntry) : Option (Nat × Value) → Option (Nat × Value) → Prop
  | none, none => True
  | some (i, v), some (i', v') => i' = i ∧ ∃ (k : Nat) (e : Value × Value) (m : MapEntry), i = j + k ∧ es[k]? = some e ∧ ms[k]? = some m ∧ v = e.2 ∧ v' = m.val
  | _, _ => False

theorem Found.step {j : Nat} {e : Value × Value} {m : MapEntry} {es : List (Value × Value)} {ms : List MapEntry} {r r' : Option (Nat × Value)} (h : Found (j + 1) es ms r r') : Found j (e :: es) (m :: ms) r r' := by
  cases r with
  | none => cases r' with
    | none => trivial
    | some p => exact h
  | some p => cases r' with
    | none => exact h
    | some p' =>
      obtain ⟨h1, k, x, y, h2, h3, h4, h5, h6⟩ := h
      exact ⟨h1, k + 1, x, y, by omega, by simpa using h3, by simpa using h4, h5, h6⟩

theorem now_rel (kind : TypeDesc) (k : Value) : ∀ (es : List (Value × Value)) (ms : List MapEntry) (j : Nat), Keys es ms →
    (Instr.findNow kind k (entriesOf es) j = none ∧ Instr.findNow kind k ms j = none) ∨
    ∃ r r', Instr.findNow kind k (entriesOf es) j = some r ∧ Instr.findNow kind k ms j = some r' ∧ Found j es ms r r' := by
  intro es
  induction es with
  | nil =>
    intro ms j h
    have : ms = [] := by have := h.1; simpa using this
    subst this
    exact .inr ⟨none, none, rfl, rfl, trivial⟩
  | cons e es ih =>
    intro ms j h
    obtain ⟨m, r, rfl, hk, hr⟩ := h.cons
    simp only [entriesOf, Instr.findNow, hk]
    cases hq : Instr.sameNow kind k e.1 with
    | none => exact .inl ⟨rfl, rfl⟩
    | some b =>
      cases b with
      | true => exact .inr ⟨_, _, rfl, rfl, rfl, 0, e, m, rfl, rfl, rfl, rfl, rfl⟩
      | false =>
        rcases ih r (j + 1) hr with ⟨h1, h2⟩ | ⟨x, y, h1, h2, h3⟩
        · exact .inl ⟨h1, h2⟩
        · exact .inr ⟨x, y, h1, h2, h3.step⟩

theorem asking_rel (kt : TypeId) (k : Value) : ∀ (es : List (Value × Value)) (ms : List MapEntry) (j : Nat), Keys es ms → ∀ r, pureRun P (Instr.findAsking kt k (entriesOf es) j) = some r →
    ∃ r', pureRun P (Instr.findAsking kt k ms j) = some r' ∧ Found j es ms r r' := by
  intro es
  induction es with
  | nil =>
    intro ms j h r hr
    have : ms = [] := by have := h.1; simpa using this
    subst this
    cases hr
    exact ⟨none, rfl, trivial⟩
  | cons e es ih =>
    intro ms j h r hr
    obtain ⟨m, rest, rfl, hk, hrest⟩ := h.cons
    simp only [entriesOf, Instr.findAsking, pureRun_bind, Option.bind_eq_some_iff] at hr ⊢
    obtain ⟨b, h1, h2⟩ := hr
    rw [hk]
    cases b with
    | true =>
      simp only [if_true] at h2
      cases h2
      exact ⟨_, ⟨true, h1, rfl⟩, rfl, 0, e, m, rfl, rfl, rfl, rfl, rfl⟩
    | false =>
      simp only [Bool.false_eq_true, if_false] at h2
      obtain ⟨r', h3, h4⟩ := ih rest (j + 1) hrest r h2
      exact ⟨r', ⟨false, h1, by simpa using h3⟩, h4.step⟩

theorem find_rel {empty : Bool} {kt : TypeId} {k : Value} {es : List (Value × Value)} {ms : List MapEntry} {r : Option (Nat × Value)} (hk : Keys es ms) (h : findA P empty kt k es = some r) (w : World) :
    ∃ r', (Instr.checkKey empty 10000 kt k).run P w = .ok () w ∧ (Instr.findKey kt k ms).run P w = .ok r' w ∧ Found 0 es ms r r' := by
  unfold findA at h
  rw [pureRun_bind] at h
  obtain ⟨u, h1, h2⟩ := Option.bind_eq_some_iff.1 h
  have hck := pureRun_run _ _ h1 w
  unfold Instr.findKey at h2 ⊢
  rw [pureRun_bind] at h2
  obtain ⟨d, h3, h4⟩ := Option.bind_eq_some_iff.1 h2
  have hd := pureRun_run _ _ h3 w
  rcases now_rel d k es ms 0 hk with ⟨n1, n2⟩ | ⟨x, y, n1, n2, n3⟩
  · rw [n1] at h4
    obtain ⟨r', a1, a2⟩ := asking_rel (P := P) kt k es ms 0 hk r h4
    exact ⟨r', hck, by simp only [Sem.run_bind, hd, Result.andThen_ok, n2]; exact pureRun_run _ _ a1 w, a2⟩
  · rw [n1] at h4
    cases h4
    exact ⟨y, hck, by simp only [Sem.run_bind, hd, Result.andThen_ok, n2]; rfl, n3⟩

theorem getObj_run {w : World} {r : Nat} {ms : Array MapEntry} {clock : Nat} (h : w.heap[r]? = some (.map ms clock)) : (getObj r).run P w = .ok (.map ms clock) w := by simp [getObj, Sem.run, h]

theorem BRel.keys {ρ : Ren} {w : World} {es : List (Value × Value)} {ver : Nat} {l : Loc} (h : BRel ρ w (.map es) ver l) : ∃ ms clock, w.heap[l.block]? = some (.map ms clock) ∧ Keys es ms.toList ∧
    ∀ (i : Nat) (e : Value × Value) (m : MapEntry), es[i]? = some e → ms.toList[i]? = some m → m.key = e.1 ∧ flat e.1 = true ∧ VR ρ e.2 m.val := by
  obtain ⟨_, ms, clock, h1, h2, h3⟩ := h
  exact ⟨ms, clock, h1, ⟨by simpa using h2, fun i e m a b => (h3 i e m a (by simpa using b)).1⟩, fun i e m a b => h3 i e m a (by simpa using b)⟩

theorem okd_rel {ρ : Ren} {v v' : Value} (h : VR ρ v v') (ok b : Bool) : VR ρ (okd ok v b) (if ok then .tuple #[v', .bool b] else v') := by
  cases ok
  · exact h
  · exact .tuple_mk (.cons h (.cons (.flat rfl) (.nil ρ)))

theorem look_sound {ρ : Ren} {B : Nat} {H : AH} {w : World} (hR : Rel ρ B H w) {e : Env} {a : Act} {fresh : Nat} {o : Oper} {t kt et : TypeId} {m k : Operand} {ok : Bool} {ti : TypeInfo} {z : Value} (ho : o.op = .lookup t m k ok) (ht : tyU P t = some (.map kt et)) (hti : tyInfo P et = some ti)
    (hz : zeroFlat ti = some z) (hE : ERel ρ e a) (hk : opKind o.op = true) (hops : ∀ x ∈ o.op.operands.toList, okOpd x = true) : ResOK P ρ B H w (execOp a.eval o) fresh (lookA P e H kt z ok (evl e m) (evl e k) o) := by
  have hm : okOpd m = true := hops m (by rw [ho]; simp [Op.operands])
  have hkk : okOpd k = true := hops k (by rw [ho]; simp [Op.operands])
  have hvm := evl_rel hE m hm
  have hvk := evl_rel hE k hkk
  obtain ⟨z1, z2⟩ := zeroFlat_some hz
  unfold lookA
  split
  · rename_i r h0
    rw [h0] at hvm
    split
    · rename_i es hes
      cases hf : flat (evl e k) with
      | false => rw [cond_false]; trivial
      | true =>
        rw [cond_true]
        obtain ⟨l, g1, g2⟩ := hvm.map_inv
        obtain ⟨ms, clock, b1, b2, b3⟩ := (hR.blk _ _ _ _ g1 hes).keys
        have hkv : a.eval k = evl e k := hvk.of_flat hf
        have hem : ms.isEmpty = es.isEmpty := by
          have := b2.1
          cases es with
          | nil => simp at this; simp [this]
          | cons x y => simp at this; cases hms : ms.isEmpty with
            | false => rfl
            | true => simp at hms; rw [hms] at this; simp at this
        unfold lookRes
        split
        · rename_i i v hfind
          obtain ⟨r', c1, c2, c3⟩ := find_rel b2 hfind w
          cases r' with
          | none => exact c3.elim
          | some p =>
            obtain ⟨d1, kk, x, y, d2, d3, d4, d5, d6⟩ := c3
            obtain ⟨i', v'⟩ := p
            simp only at d1 d6
            refine .val (v' := if ok then .tuple #[v', .bool true] else v') ?_ ?_
            · simp only [execOp, ho, g2, hkv]
              simp [Instr.lookup, run_under ht, getObj_run b1, hem, c1, c2]
            · rw [d5, d6]
              exact okd_rel (b3 kk x y d3 d4).2.2 ok true
        · rename_i hfind
          obtain ⟨r', c1, c2, c3⟩ := find_rel b2 hfind w
          cases r' with
          | some p => exact c3.elim
          | none =>
            refine .val (v' := if ok then .tuple #[z, .bool false] else z) ?_ (okd_rel (.flat z2) ok false)
            simp only [execOp, ho, g2, hkv]
            simp [Instr.lookup, run_under ht, getObj_run b1, hem, c1, c2, run_zero hti z1]
        · trivial
    · trivial
  · exact gen_sound hk hE hops

theorem setObj_run {w : World} {r : Nat} {ms : Array MapEntry} {clock : Nat} (h : w.heap[r]? = some (.map ms clock)) (o : Obj) : (setObj r o).run P w = .ok () { w with heap := w.heap.setIfInBounds r o } := by simp [setObj, Sem.run, h]

theorem upd_write {ρ : Ren} {B : Nat} {H : AH} {w : World} (hR : Rel ρ B H w) {r : Nat} {l : Loc} {es es' : List (Value × Value)} {ms' : Array MapEntry} {clock' : Nat} (hl : ρ r 0 = some l) (hes : H.get r = some (.map es)) (hid : okKey r = true)
    (hlen : ms'.size = es'.length) (hrel : ∀ (i : Nat) (e : Value × Value) (m : MapEntry), es'[i]? = some e → ms'[i]? = some m → m.key = e.1 ∧ flat e.1 = true ∧ VR ρ e.2 m.val) :
    Rel ρ B (H.set r (.map es')) { w with heap := w.heap.setIfInBounds l.block (.map ms' clock') } ∧ Ext ρ H w ρ (H.set r (.map es')) { w with heap := w.heap.setIfInBounds l.block (.map ms' clock') } := by
  have hlt := (hR.bnd _ _ _ hl).2
  refine Rel.write hR (.refl ρ) (fun _ _ _ h => .inl h) hes hid (by simp) ?_ ?_ (fun c hc => by cases hc) (fun _ _ _ h => .inl h) ?_ (fun _ _ h => h) (fun _ _ _ _ _ _ _ _ _ h => h)
  · intro b hb himg
    have : ¬ l.block = b := himg _ _ hl
    simp [this]
  · intro ver l' hl'
    have hv : ver = 0 := (hR.blk _ _ _ _ hl' hes).1
    subst hv
    have : l' = l := by rw [hl] at hl'; exact (Option.some.inj hl').symm
    subst this
    exact ⟨rfl, ms', clock', by simp [hlt], hlen, hrel⟩
  · intro ver l' i v hl' hv _
    exact (hR.fz.sep _ _ _ _ _ _ hl' hv hes).elim

theorem VR.flz {ρ : Ren} {v v' : Value} (h : VR ρ v v') : VR ρ (flz v) v' := by
  unfold Go.Den.flz
  cases hq : asFO v with
  | none => exact h
  | some p =>
    obtain ⟨id, e, vs⟩ := p
    have hv := asFO_some hq
    subst hv
    obtain ⟨l, f, h1, h2, h3, h4, h5, h6⟩ := h.own_inv
    subst h4
    exact VR.list (a' := ⟨l.block, 0, none⟩) h2 f (fun i hi => by rw [Nat.zero_add]; exact h5 i hi) h6

theorem upd_sound0 {ρ : Ren} {B : Nat} {H : AH} {w : World} (hR : Rel ρ B H w) {fresh : Nat} {t kt et : TypeId} {m m' k k' x x' : Value} (ht : tyU P t = some (.map kt et)) (hm : VR ρ m m') (hk : VR ρ k k') (hx : VR ρ x x') {s : Sem Next}
    (hs : s = do Instr.mapUpdate t m' k' x'; pure .skip) : ResOK P ρ B H w s fresh (updA0 P H kt m k x) := by
  subst hs
  unfold updA0
  split
  · rename_i r
    split
    · rename_i es hes
      cases hq : (flat k && okKey r) with
      | false => rw [cond_false]; trivial
      | true =>
        rw [cond_true]
        simp only [Bool.and_eq_true] at hq
        obtain ⟨hf, hid⟩ := hq
        obtain ⟨l, g1, g2⟩ := hm.map_inv
        subst g2
        obtain ⟨ms, clock, b1, b2, b3⟩ := (hR.blk _ _ _ _ g1 hes).keys
        have hkv : k' = k := hk.of_flat hf
        subst hkv
        have hlen : ms.size = es.length := by have := b2.1; simpa using this
        unfold updRes
        split
        · rename_i i v hfind
          split
          · rename_i ee hee
            cases hsb : Instr.sameBits 10000 ee.1 k' with
            | false => rw [cond_false]; trivial
            | true =>
              rw [cond_true]
              intro _
              obtain ⟨r', c1, c2, c3⟩ := find_rel b2 hfind w
              cases r' with
              | none => exact c3.elim
              | some p =>
                obtain ⟨i', v'⟩ := p
                obtain ⟨d1, kk, e0, m0, d2, d3, d4, d5, d6⟩ := c3
                subst d1
                have hkk : kk = i' := by omega
                subst hkk
                have hm0 : ms[kk]? = some m0 := by simpa using d4
                have hkey : m0.key = ee.1 := by rw [hee] at d3; cases d3; exact (b3 kk ee m0 hee d4).1
                obtain ⟨q1, q2⟩ := upd_write (clock' := clock) (es' := es.set kk (k', x)) (ms' := ms.modify kk fun e => { e with key := k', val := x' }) hR g1 hes hid (by simp [hlen]) (by
                  intro i e m h1 h2
                  rw [List.getElem?_set] at h1
                  rw [Array.getElem?_modify] at h2
                  by_cases hi : kk = i
                  · subst hi
                    rw [if_pos rfl] at h2
                    rw [hm0] at h2
                    simp only [Option.map_some, Option.some.injEq] at h2
                    rw [if_pos rfl] at h1
                    split at h1
                    · cases h1; subst h2; exact ⟨rfl, hf, hx⟩
                    · cases h1
                  · rw [if_neg hi] at h1 h2
                    exact b3 i e m h1 (by simpa using h2))
                refine ⟨.skip, undef, _, ρ, ?_, rfl, .flat flat_undef, q1, q2⟩
                have hkeep : (Instr.keyThatStays (((ms[kk]?).map (·.key)).getD k') k').run P w = .ok k' w := by
                  rw [hm0]
                  show (Instr.keyThatStays m0.key k').run P w = _
                  unfold Instr.keyThatStays
                  rw [hkey, if_pos hsb]
                  rfl
                simp only [Instr.mapUpdate, Sem.run_bind, run_under ht, Result.andThen_ok, getObj_run b1, c1, c2, hkeep, setObj_run b1]
                rfl
          · trivial
        · rename_i hfind
          intro _
          obtain ⟨r', c1, c2, c3⟩ := find_rel b2 hfind w
          cases r' with
          | some p => exact c3.elim
          | none =>
            obtain ⟨q1, q2⟩ := upd_write (clock' := clock + 1) (es' := es ++ [(k', x)]) (ms' := ms.push { key := k', val := x', born := clock }) hR g1 hes hid (by simp [hlen]) (by
              intro i e m h1 h2
              rw [Array.getElem?_push] at h2
              by_cases hi : i = ms.size
              · rw [if_pos hi] at h2
                cases h2
                rw [hi, hlen, List.getElem?_append_right (Nat.le_refl _)] at h1
                simp at h1
                subst h1
                exact ⟨rfl, hf, hx⟩
              · rw [if_neg hi] at h2
                have hlt : i < es.length := by
                  rcases Nat.lt_or_ge i ms.size with h | h
                  · omega
                  · rw [Array.getElem?_eq_none h] at h2; cases h2
                rw [List.getElem?_append_left hlt] at h1
                exact b3 i e m h1 (by simpa using h2))
            refine ⟨.skip, undef, _, ρ, ?_, rfl, .flat flat_undef, q1, q2⟩
            simp only [Instr.mapUpdate, Sem.run_bind, run_under ht, Result.andThen_ok, getObj_run b1, c1, c2, setObj_run b1]
            rfl
        · trivial
    · trivial
  · trivial

theorem upd_sound {ρ : Ren} {B : Nat} {H : AH} {w : World} (hR : Rel ρ B H w) {fresh : Nat} {t kt et : TypeId} {m m' k k' x x' : Value} (ht : tyU P t = some (.map kt et)) (hm : VR ρ m m') (hk : VR ρ k k') (hx : VR ρ x x') {s : Sem Next}
    (hs : s = do Instr.mapUpdate t m' k' x'; pure .skip) : ResOK P ρ B H w s fresh (updA P H kt m k x) := upd_sound0 hR ht hm hk hx.flz hs

theorem size_erase {ms : Array MapEntry} {i : Nat} (h : i < ms.size) : (ms.eraseIdxIfInBounds i).size = ms.size - 1 := by
  simp [Array.eraseIdxIfInBounds, h]
theorem get_erase {ms : Array MapEntry} {i j : Nat} (h : i < ms.size) : (ms.eraseIdxIfInBounds i)[j]? = if j < i then ms[j]? else ms[j + 1]? := by
  simp only [Array.eraseIdxIfInBounds, h, dif_pos]
  rw [Array.getElem?_eraseIdx]

theorem del_sound {ρ : Ren} {B : Nat} {H : AH} {w : World} (hR : Rel ρ B H w) {fresh : Nat} {t kt et ty : TypeId} {at_ : Array TypeId} {m m' k k' : Value} (h0 : at_[0]? = some t) (ht : tyU P t = some (.map kt et)) (hm : VR ρ m m') (hk : VR ρ k k') :
    ResOK P ρ B H w (vNext (Builtin.delete_ at_ ty #[m', k'])) fresh (delA P H kt m k) := by
  unfold delA
  split
  · rename_i r
    split
    · rename_i es hes
      cases hq : (flat k && okKey r) with
      | false => rw [cond_false]; trivial
      | true =>
        rw [cond_true]
        simp only [Bool.and_eq_true] at hq
        obtain ⟨hf, hid⟩ := hq
        obtain ⟨l, g1, g2⟩ := hm.map_inv
        subst g2
        obtain ⟨ms, clock, b1, b2, b3⟩ := (hR.blk _ _ _ _ g1 hes).keys
        have hkv : k' = k := hk.of_flat hf
        subst hkv
        have hlen : ms.size = es.length := by have := b2.1; simpa using this
        have hemp : ms.isEmpty = es.isEmpty := by
          cases es with
          | nil => simp at hlen; simp [hlen]
          | cons a es => simp at hlen; simp [Array.isEmpty, hlen]
        unfold delRes
        split
        · rename_i i v hfind
          intro _
          obtain ⟨r', c1, c2, c3⟩ := find_rel b2 hfind w
          cases r' with
          | none => exact c3.elim
          | some p =>
            obtain ⟨i', v'⟩ := p
            obtain ⟨d1, kk, e0, m0, d2, d3, d4, d5, d6⟩ := c3
            subst d1
            have hkk : kk = i' := by omega
            subst hkk
            have hm0 : ms[kk]? = some m0 := by simpa using d4
            have hkl : kk < ms.size := (Array.getElem?_eq_some_iff.1 hm0).1
            obtain ⟨q1, q2⟩ := upd_write (clock' := clock) (es' := es.eraseIdx kk) (ms' := ms.eraseIdxIfInBounds kk) hR g1 hes hid (by rw [size_erase hkl, List.length_eraseIdx, if_pos (by omega), hlen]) (by
              intro i e m h1 h2
              replace h2 : (ms.eraseIdxIfInBounds kk)[i]? = some m := by simpa using h2
              rw [get_erase hkl] at h2
              rw [List.getElem?_eraseIdx] at h1
              by_cases hi : i < kk
              · rw [if_pos hi] at h1 h2; exact b3 i e m h1 (by simpa using h2)
              · rw [if_neg hi] at h1 h2; exact b3 (i + 1) e m h1 (by simpa using h2))
            refine ⟨.value (.tuple #[]), .tuple #[], _, ρ, ?_, rfl, .flat rfl, q1, q2⟩
            rw [run_vNext]
            simp only [Builtin.delete_, h0, List.getElem?_toArray, List.getElem?_cons_zero, List.getElem?_cons_succ, Sem.run_bind, run_under ht, Result.andThen_ok, getObj_run b1, hemp, c1, c2, setObj_run b1]
            rfl
        · rename_i hfind
          intro _
          obtain ⟨r', c1, c2, c3⟩ := find_rel b2 hfind w
          cases r' with
          | some p => exact c3.elim
          | none =>
            obtain ⟨q1, q2⟩ := upd_write (clock' := clock) (es' := es) (ms' := ms) hR g1 hes hid hlen (fun i e m h1 h2 => b3 i e m h1 (by simpa using h2))
            refine ⟨.value (.tuple #[]), .tuple #[], _, ρ, ?_, rfl, .flat rfl, q1, q2⟩
            rw [run_vNext]
            simp only [Builtin.delete_, h0, List.getElem?_toArray, List.getElem?_cons_zero, List.getElem?_cons_succ, Sem.run_bind, run_under ht, Result.andThen_ok, getObj_run b1, hemp, c1, c2, setObj_run b1]
            rfl
        · trivial
    · trivial
  · trivial

end
end Go.Den
