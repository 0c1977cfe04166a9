/-
  THE ENGINE, part F: worlds that hold an abstract heap: reading, making, writing.
-/
import Derived.Test.YtjihbfdbgamcdaaGreatDoorE2D
import Derived.WalkKit
namespace Go.Den
noncomputable section

structure ERel (ρ : Ren) (e : Env) (a : Act) : Prop where
  defers : a.defers = []
  size : a.tmps.size = e.n
  ok : okKey e.n = true
  get : ∀ k, VR ρ (e.get k) (a.tmps.getD k undef)
  glob : ∀ i, VR ρ (globV (e.g.1 i)) (a.eval (.global i))

theorem eval_global (a b : Act) (i : Nat) : a.eval (.global i) = b.eval (.global i) := rfl

theorem ERel.mono {ρ ρ' : Ren} {e : Env} {a : Act} (hs : Sub ρ ρ') (h : ERel ρ e a) : ERel ρ' e a := ⟨h.defers, h.size, h.ok, fun k => (h.get k).mono hs, fun i => (h.glob i).mono hs⟩

theorem flat_undef : flat undef = true := by simp [undef, flat, flatA, flatL]

theorem okKey_lt {j k : Nat} (h : okKey k = true) (hj : j ≤ k) : okKey j = true := by
  unfold okKey at *
  have := Nat.le_of_ble_eq_true h
  exact Nat.ble_eq_true_of_le (by omega)

theorem Env.get_put {e : Env} (hk : okKey e.n = true) (d : Nat) (v : Value) (k : Nat) : (e.put (some d) v).get k = if k = d ∧ d < e.n then v else e.get k := by
  cases e with
  | mk n t gl =>
    have hd : (Env.mk n t gl).put (some d) v = bif Nat.blt d n then ⟨n, T.put v 40 t d, gl⟩ else ⟨n, t, gl⟩ := rfl
    rw [hd]
    by_cases hlt : d < n
    · have hb : Nat.blt d n = true := Nat.ble_eq_true_of_le (by omega)
      rw [hb, cond_true]
      simp only [Env.get]
      rw [T.get_put' (okKey_lt hk (by simp; omega)) v t k]
      by_cases hkd : k = d
      · simp [hkd, hlt]
      · simp [hkd]
    · have hb : Nat.blt d n = false := by
        cases hq : Nat.blt d n with
        | false => rfl
        | true => exact absurd (Nat.le_of_ble_eq_true hq) (by omega)
      rw [hb, cond_false]
      simp [hlt]

theorem Env.put_n (e : Env) (d : Option Tmp) (v : Value) : (e.put d v).n = e.n := by
  cases d with
  | none => rfl
  | some d =>
    cases e with
    | mk n t gl =>
      show (bif Nat.blt d n then (⟨n, T.put v 40 t d, gl⟩ : Env) else ⟨n, t, gl⟩).n = n
      cases Nat.blt d n <;> rfl

theorem Env.put_g (e : Env) (d : Option Tmp) (v : Value) : (e.put d v).g = e.g := by
  cases d with
  | none => rfl
  | some d =>
    cases e with
    | mk n t gl =>
      show (bif Nat.blt d n then (⟨n, T.put v 40 t d, gl⟩ : Env) else ⟨n, t, gl⟩).g = gl
      cases Nat.blt d n <;> rfl

theorem ERel.put {ρ : Ren} {e : Env} {a : Act} (h : ERel ρ e a) {v v' : Value} (hv : VR ρ v v') (d : Option Tmp) : ERel ρ (e.put d v) (a.put d v') := by
  cases d with
  | none => exact h
  | some d =>
    refine ⟨h.defers, by simp [Act.put, h.size, Env.put_n], by rw [Env.put_n]; exact h.ok, ?_, fun i => by rw [Env.put_g]; exact h.glob i⟩
    intro k
    rw [Env.get_put h.ok]
    have hg := h.get k
    have hs := h.size
    by_cases hk : k = d
    · subst hk
      by_cases hlt : k < e.n
      · have e1 : (a.put (some k) v').tmps.getD k undef = v' := by simp [Act.put, hs, hlt]
        rw [e1, if_pos ⟨rfl, hlt⟩]
        exact hv
      · have e1 : (a.put (some k) v').tmps.getD k undef = a.tmps.getD k undef := by simp [Act.put, hs, hlt]
        rw [e1, if_neg (fun c => hlt c.2)]
        exact hg
    · have hk' : ¬ d = k := fun e => hk e.symm
      have e1 : (a.put (some d) v').tmps.getD k undef = a.tmps.getD k undef := by simp [Act.put, Array.getD_eq_getD_getElem?, hk']
      rw [e1, if_neg (fun c => hk c.1)]
      exact hg

theorem evl_rel {ρ : Ren} {e : Env} {a : Act} (h : ERel ρ e a) (x : Operand) (hx : okOpd x = true) : VR ρ (evl e x) (a.eval x) := by
  cases x with
  | tmp t => exact h.get t
  | const v => exact .flat hx
  | func f => exact .flat rfl
  | global g => exact h.glob g

theorem evls_rel {ρ : Ren} {e : Env} {a : Act} (h : ERel ρ e a) (l : List Operand) (hl : ∀ x ∈ l, okOpd x = true) : VRL ρ (evls e l) (l.map a.eval) := by
  induction l with
  | nil => exact .nil ρ
  | cons x l ih => exact .cons (evl_rel h x (hl x (by simp))) (ih fun y hy => hl y (by simp [hy]))

structure Ext (ρ : Ren) (H : AH) (w : World) (ρ' : Ren) (H' : AH) (w' : World) : Prop where
  sub : Sub ρ ρ'
  size : w.heap.size ≤ w'.heap.size
  frame : ∀ b : Nat, b < w.heap.size → (∀ id ver l, (H.get id).isSome = true → ρ id ver = some l → l.block ≠ b) → w'.heap[b]? = w.heap[b]?
  fresh : ∀ id ver l, ρ' id ver = some l → ρ id ver = none → w.heap.size ≤ l.block ∨ ∃ ver0 l0, (H.get id).isSome = true ∧ ρ id ver0 = some l0 ∧ l0.block = l.block
  dom : ∀ id ver l, ρ' id ver = some l → ρ id ver = none → (H.n ≤ id ∧ id < H'.n) ∨ ((H.get id).isSome = true ∧ ∃ ver0 l0, ρ id ver0 = some l0)
  n : H.n ≤ H'.n
  keep : ∀ id, (H.get id).isSome = true → (H'.get id).isSome = true
  new : ∀ id, (H'.get id).isSome = true → (H.get id).isSome = true ∨ H.n ≤ id
  same : w'.os = w.os ∧ w'.output = w.output
  cells : ∀ b i v, ρ'.cell b i = some v → ρ.cell b i = some v ∨ w.heap.size ≤ b ∨ ∃ id ver l, (H.get id).isSome = true ∧ ρ id ver = some l ∧ l.block = b

/-- The numbers between are free. -/
def Free (ρ : Ren) (n n' : Nat) : Prop := ∀ id ver, n ≤ id → id < n' → ρ id ver = none

theorem Ext.refl (ρ : Ren) (H : AH) (w : World) : Ext ρ H w ρ H w :=
  ⟨.refl ρ, Nat.le_refl _, fun _ _ _ => rfl, fun id ver l h h' => (by rw [h] at h'; cases h'), fun id ver l h h' => (by rw [h] at h'; cases h'), Nat.le_refl _, fun _ h => h, fun _ h => .inl h, ⟨rfl, rfl⟩, fun _ _ _ h => .inl h⟩

theorem Free.next {ρ ρ1 : Ren} {H H1 : AH} {w w1 : World} {n : Nat} (hlow : ∀ id b, H.get id = some b → id < H.n) (h : Ext ρ H w ρ1 H1 w1) (hf : Free ρ H.n n) : Free ρ1 H1.n n := by
  intro id ver h1 h2
  cases hq : ρ1 id ver with
  | none => rfl
  | some l =>
    have hn := h.n
    have h0 := hf id ver (by omega) h2
    rcases h.dom id ver l hq h0 with ⟨_, h4⟩ | ⟨h4, _⟩
    · omega
    · obtain ⟨b, hb⟩ := Option.isSome_iff_exists.1 h4
      have := hlow id b hb
      omega

theorem Ext.trans {ρ ρ1 ρ2 : Ren} {H H1 H2 : AH} {w w1 w2 : World} (hlow1 : ∀ id b, H1.get id = some b → id < H1.n)
    (h : Ext ρ H w ρ1 H1 w1) (h' : Ext ρ1 H1 w1 ρ2 H2 w2) (hf : Free ρ H.n H2.n) : Ext ρ H w ρ2 H2 w2 := by
  have hn := h.n
  have hn' := h'.n
  refine ⟨h.sub.trans h'.sub, Nat.le_trans h.size h'.size, ?_, ?_, ?_, Nat.le_trans hn hn', fun id hi => h'.keep id (h.keep id hi), ?_, ⟨h'.same.1.trans h.same.1, h'.same.2.trans h.same.2⟩, ?_⟩
  · intro b hb himg
    rw [h'.frame b (Nat.lt_of_lt_of_le hb h.size) ?_, h.frame b hb himg]
    intro id ver l hs hl e
    cases hq : ρ id ver with
    | some l0 =>
      have : l0 = l := by have := h.sub id ver l0 hq; rw [hl] at this; exact (Option.some.inj this).symm
      subst this
      rcases h.new id hs with hs0 | hge
      · exact himg id ver l0 hs0 hq e
      · obtain ⟨b1, hb1⟩ := Option.isSome_iff_exists.1 hs
        have := hf id ver hge (by have := hlow1 id b1 hb1; omega)
        rw [hq] at this; cases this
    | none =>
      rcases h.fresh id ver l hl hq with h1 | ⟨ver0, l0, hs0, h0, e0⟩
      · omega
      · exact himg id ver0 l0 hs0 h0 (e0.trans e)
  · intro id ver l hl h0
    cases hq : ρ1 id ver with
    | some l1 =>
      have : l1 = l := by have := h'.sub id ver l1 hq; rw [hl] at this; exact (Option.some.inj this).symm
      subst this
      exact h.fresh id ver l1 hq h0
    | none =>
      rcases h'.fresh id ver l hl hq with h1 | ⟨ver0, l0, hs0, h01, e0⟩
      · exact .inl (Nat.le_trans h.size h1)
      · cases hq0 : ρ id ver0 with
        | some l2 =>
          have : l2 = l0 := by have := h.sub id ver0 l2 hq0; rw [h01] at this; exact (Option.some.inj this).symm
          subst this
          rcases h.new id hs0 with hs | hge
          · exact .inr ⟨ver0, l2, hs, hq0, e0⟩
          · obtain ⟨b1, hb1⟩ := Option.isSome_iff_exists.1 hs0
            have := hf id ver0 hge (by have := hlow1 id b1 hb1; omega)
            rw [hq0] at this; cases this
        | none =>
          rcases h.fresh id ver0 l0 h01 hq0 with h1 | ⟨ver1, l3, hs3, h3, e3⟩
          · exact .inl (by omega)
          · exact .inr ⟨ver1, l3, hs3, h3, e3.trans e0⟩
  · intro id ver l hl h0
    cases hq : ρ1 id ver with
    | some l1 =>
      have : l1 = l := by have := h'.sub id ver l1 hq; rw [hl] at this; exact (Option.some.inj this).symm
      subst this
      rcases h.dom id ver l1 hq h0 with ⟨h1, h2⟩ | h1
      · exact .inl ⟨h1, by omega⟩
      · exact .inr h1
    | none =>
      rcases h'.dom id ver l hl hq with ⟨h1, h2⟩ | ⟨h1, ver0, l0, h10⟩
      · exact .inl ⟨by omega, h2⟩
      · rcases h.new id h1 with h3 | h3
        · cases hq0 : ρ id ver0 with
          | some l2 => exact .inr ⟨h3, ver0, l2, hq0⟩
          | none =>
            rcases h.dom id ver0 l0 h10 hq0 with ⟨h4, h5⟩ | h4
            · exact .inl ⟨h4, by omega⟩
            · exact .inr h4
        · obtain ⟨b1, hb1⟩ := Option.isSome_iff_exists.1 h1
          have := hlow1 id b1 hb1
          exact .inl ⟨h3, by omega⟩
  · intro id hs
    rcases h'.new id hs with h1 | h1
    · exact h.new id h1
    · exact .inr (by omega)
  · intro b i v hv
    rcases h'.cells b i v hv with h1 | h1 | ⟨id, ver, l, h1, h2, h3⟩
    · exact h.cells b i v h1
    · exact .inr (.inl (Nat.le_trans h.size h1))
    · cases hq : ρ id ver with
      | some l0 =>
        have : l0 = l := by have := h.sub id ver l0 hq; rw [h2] at this; exact (Option.some.inj this).symm
        subst this
        rcases h.new id h1 with h4 | h4
        · exact .inr (.inr ⟨id, ver, l0, h4, hq, h3⟩)
        · obtain ⟨b1, hb1⟩ := Option.isSome_iff_exists.1 h1
          have := hf id ver h4 (by have := hlow1 id b1 hb1; omega)
          rw [hq] at this; cases this
      | none =>
        rcases h.fresh id ver l h2 hq with h4 | ⟨ver0, l0, h4, h5, h6⟩
        · exact .inr (.inl (by omega))
        · exact .inr (.inr ⟨id, ver0, l0, h4, h5, h6.trans h3⟩)

/- READING -/

theorem rdBlk_some {H : AH} {a : Addr} {n : Nat} {b : CBlk} (h : rdBlk H a n = some b) : H.get a.block = some (.cells b) ∧ b.wver ≤ aver a ∧ aver a ≤ b.top ∧ a.off + n ≤ b.lenAt (aver a) := by
  unfold rdBlk at h
  split at h
  · rename_i c hc
    cases hq : rdOk c (aver a) (a.off + n) with
    | false => rw [hq, cond_false] at h; cases h
    | true =>
      rw [hq, cond_true] at h
      cases h
      simp only [rdOk, Bool.and_eq_true, Nat.ble_eq] at hq
      exact ⟨hc, hq.1, hq.2.1, hq.2.2⟩
  · cases h

theorem rd_rel {ρ : Ren} {B : Nat} {H : AH} {w : World} (hR : Rel ρ B H w) {a : Addr} {n : Nat} {b : CBlk} {l : Loc} (h : rdBlk H a n = some b) (hl : ρ a.block (aver a) = some l) : CRel ρ w b (aver a) l := by
  obtain ⟨h1, h2, h3, h4⟩ := rdBlk_some h
  exact (hR.blk _ _ _ _ hl h1).2 h2

theorem rd_len {ρ : Ren} {B : Nat} {H : AH} {w : World} (hR : Rel ρ B H w) {a : Addr} {n : Nat} {b : CBlk} (h : rdBlk H a n = some b) : a.off + n ≤ b.cells.length := by
  obtain ⟨h1, h2, h3, h4⟩ := rdBlk_some h
  exact Nat.le_trans h4 ((hR.wf _ _ h1).lenAt_le _)

theorem rd_cell {ρ : Ren} {B : Nat} {H : AH} {w : World} (hR : Rel ρ B H w) {a : Addr} {n : Nat} {b : CBlk} {l : Loc} (h : rdBlk H a n = some b) (hl : ρ a.block (aver a) = some l)
    (j : Nat) (hj : j < n) : ∃ v v', b.cells[a.off + j]? = some v ∧ w.cell? ⟨l.block, a.off + j, none⟩ = some v' ∧ VR ρ v v' := by
  have hlen := rd_len hR h
  obtain ⟨h1, h2, h3, h4⟩ := rdBlk_some h
  obtain ⟨v', hv⟩ := (rd_rel hR h hl).vals (a.off + j) b.cells[a.off + j] (by omega) (List.getElem?_eq_getElem (by omega))
  exact ⟨_, v', List.getElem?_eq_getElem (by omega), hv⟩

theorem addr_add (b o j : Nat) : (⟨b, o, none⟩ : Addr).add j = ⟨b, o + j, none⟩ := by
  unfold Addr.add
  split
  · rename_i h0; rw [h0]; rfl
  · rfl

/-- Cells in a row, read. -/
theorem run_load_row {P : Program} {ρ : Ren} {B : Nat} {H : AH} {w : World} (hR : Rel ρ B H w) {a : Addr} {n : Nat} {b : CBlk} {l : Loc} (h : rdBlk H a n = some b) (hl : ρ a.block (aver a) = some l) :
    ∃ cs : Array Value, (loadCells ⟨l.block, a.off, none⟩ n).run P w = .ok cs w ∧ VRL ρ (slotsOf b.cells a.off n) cs.toList := by
  refine ⟨_, run_loadCells w ⟨l.block, a.off, none⟩ n (fun j => (w.cell? ⟨l.block, a.off + j, none⟩).getD undef) ?_, ?_⟩
  · intro j hj
    obtain ⟨v, v', _, h2, _⟩ := rd_cell hR h hl j hj
    rw [addr_add, h2]
    rfl
  · have hlen := rd_len hR h
    refine ⟨by simp [slotsOf]; omega, ?_⟩
    intro i v v' e e'
    simp only [slotsOf, List.getElem?_take, List.getElem?_drop] at e
    split at e
    · rename_i hi
      obtain ⟨x, x', h1, h2, h3⟩ := rd_cell hR h hl i hi
      rw [h1] at e
      cases e
      simp only [List.getElem?_map, List.getElem?_range hi, Option.map_some, Option.some.injEq, h2, Option.getD_some] at e'
      subst e'
      exact h3
    · cases e

/- MAKING -/

theorem cell?_push {w w' : World} {o : Obj} (hp : w'.heap = w.heap.push o) (a : Addr) (h : a.block < w.heap.size) : w'.cell? a = w.cell? a := by
  unfold World.cell?
  rw [hp, Array.getElem?_push, if_neg (by omega)]

theorem frozen?_push {w w' : World} {o : Obj} (hp : w'.heap = w.heap.push o) (a : Addr) (h : a.block < w.heap.size) : w'.frozen? a = w.frozen? a := by
  unfold World.frozen?
  rw [hp, Array.getElem?_push, if_neg (by omega)]

theorem shape?_push {w w' : World} {o : Obj} (hp : w'.heap = w.heap.push o) (r : Nat) (h : r < w.heap.size) : w'.shape? r = w.shape? r := by
  unfold World.shape?
  rw [hp, Array.getElem?_push, if_neg (by omega)]

/-- A block's reading hangs on its own cells alone. -/
theorem BRel.keep {ρ ρ' : Ren} {w w' : World} (hs : Sub ρ ρ') {b : ABlk} {ver : Nat} {l : Loc} (h : BRel ρ w b ver l) (he : w'.heap[l.block]? = w.heap[l.block]?) : BRel ρ' w' b ver l := by
  cases b with
  | cells b =>
    refine ⟨h.1, fun hv => ?_⟩
    have hc := h.2 hv
    obtain ⟨n, h1, h2, h3, h4⟩ := hc.shape
    refine ⟨⟨n, by simpa [World.shape?, he] using h1, h2, h3, fun i hi hn => by have := h4 i hi hn; simpa [World.frozen?, he] using this⟩, ?_, hc.esz, fun hm => by have := hc.hi hm; simpa [hiOf, he] using this⟩
    intro i v hi e
    obtain ⟨v', h5, h6⟩ := hc.vals i v hi e
    exact ⟨v', by simpa [World.cell?, he] using h5, h6.mono hs⟩
  | map es =>
    obtain ⟨h0, ms, clock, h1, h2, h3⟩ := h
    exact ⟨h0, ms, clock, by rw [he]; exact h1, h2, fun i e m a c => by have := h3 i e m a c; exact ⟨this.1, this.2.1, this.2.2.mono hs⟩⟩
  | tok m elem esz =>
    obtain ⟨h0, h1, h2⟩ := h
    refine ⟨h0, h1, fun hv => ?_⟩
    have := h2 hv
    exact ⟨by simpa [World.shape?, he] using this.shape, this.le, fun i a c => by have := this.free i a c; simpa [World.frozen?, he] using this, by have := this.hi; simpa [hiOf, he] using this⟩

def Ren.add (ρ : Ren) (id ver : Nat) (l : Loc) : Ren := ⟨fun i v => if i = id ∧ v = ver then some l else ρ i v, ρ.cell⟩

theorem Ren.add_cell (ρ : Ren) (id ver : Nat) (l : Loc) : (ρ.add id ver l).cell = ρ.cell := rfl

theorem Ren.sub_add {ρ : Ren} {id ver : Nat} {l : Loc} (h : ρ id ver = none) : Sub ρ (ρ.add id ver l) := by
  refine ⟨?_, fun _ _ _ h => h⟩
  intro i v x hx
  unfold Ren.add
  simp only
  split
  · rename_i hc; rw [hc.1, hc.2, h] at hx; cases hx
  · exact hx

theorem Ren.add_self (ρ : Ren) (id ver : Nat) (l : Loc) : (ρ.add id ver l) id ver = some l := by simp [Ren.add]

theorem Ren.add_cases {ρ : Ren} {id ver : Nat} {l : Loc} {i v : Nat} {x : Loc} (h : (ρ.add id ver l) i v = some x) : (i = id ∧ v = ver ∧ x = l) ∨ ρ i v = some x := by
  unfold Ren.add at h
  simp only at h
  split at h
  · rename_i hc; cases h; exact .inl ⟨hc.1, hc.2, rfl⟩
  · exact .inr h

/-- A new block in the world under a number that the heap has for it already, or gets now. -/
theorem Rel.born {ρ : Ren} {B : Nat} {H H' : AH} {w w' : World} {o : Obj} {l : Loc} {id : Nat} {b : ABlk} (hR : Rel ρ B H w) (hp : w'.heap = w.heap.push o) (hl : l.block = w.heap.size)
    (hfree : ∀ ver, ρ id ver = none) (hget : ∀ i, H'.get i = if i = id then some b else H.get i) (hb : ∀ ρ', Sub ρ ρ' → ρ' id 0 = some l → BRel ρ' w' b 0 l) (hwf : ∀ c, b = .cells c → c.WF) (hlow : ∀ i c, H'.get i = some c → i < H'.n) :
    Rel (ρ.add id 0 l) B H' w' := by
  have hs : Sub ρ (ρ.add id 0 l) := Ren.sub_add (hfree 0)
  have hsz : w'.heap.size = w.heap.size + 1 := by rw [hp]; simp
  have hB := hR.base
  have hcell : ∀ b i v, ρ.cell b i = some v → w'.cell? ⟨b, i, none⟩ = some v := by
    intro b i v hv
    have h1 := hR.fz.cell b i v hv
    rw [cell?_push hp ⟨b, i, none⟩ (hR.fz.lt hv)]
    exact h1
  refine ⟨?_, ?_, hlow, ?_, ?_, by omega, ⟨hcell, ?_⟩⟩
  · intro i ver x c hx hc
    rw [hget] at hc
    rcases Ren.add_cases hx with ⟨rfl, rfl, rfl⟩ | hx2
    · rw [if_pos rfl] at hc
      cases hc
      exact hb _ hs (Ren.add_self _ _ _ _)
    · by_cases hi : i = id
      · subst hi; rw [hfree] at hx2; cases hx2
      · rw [if_neg hi] at hc
        have hbd := (hR.bnd _ _ _ hx2).2
        exact (hR.blk _ _ _ _ hx2 hc).keep hs (by rw [hp, Array.getElem?_push, if_neg (by omega)])
  · intro i c hc
    rw [hget] at hc
    split at hc
    · cases hc; exact hwf c rfl
    · exact hR.wf i c hc
  · intro i v x i' v' x' h1 h2 e
    rcases Ren.add_cases h1 with ⟨ha, hb1, hc⟩ | h3 <;> rcases Ren.add_cases h2 with ⟨ha', hb1', hc'⟩ | h4
    · rw [ha, ha']
    · have := (hR.bnd _ _ _ h4).2; rw [hc] at e; omega
    · have := (hR.bnd _ _ _ h3).2; rw [hc'] at e; omega
    · exact hR.sep _ _ _ _ _ _ h3 h4 e
  · intro i v x h1
    rcases Ren.add_cases h1 with ⟨_, _, hc⟩ | h3
    · rw [hc]; omega
    · have := hR.bnd _ _ _ h3; omega
  · intro i ver x k v c hx hv hc
    rcases Ren.add_cases hx with ⟨_, _, h3⟩ | h3
    · have h4 : ρ.cell x.block k = some v := hv
      have := hR.fz.lt h4
      rw [h3] at this
      omega
    · rw [hget] at hc
      by_cases hi : i = id
      · subst hi; rw [hfree] at h3; cases h3
      · rw [if_neg hi] at hc
        exact hR.fz.sep i ver x k v c h3 hv hc

end
end Go.Den
