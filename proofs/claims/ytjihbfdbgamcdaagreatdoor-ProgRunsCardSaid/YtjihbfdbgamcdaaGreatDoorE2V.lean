/-
  THE ENGINE, part V: regions that draw their order come to one end.
-/
import Derived.Test.YtjihbfdbgamcdaaGreatDoorE2U
namespace Go.Den
noncomputable section

variable {P : Program} {G : Nat → Option (List Value)}

/-- Two stretches in one: the later one may make blocks under numbers that were kept for it. -/
theorem Ext.trans2 {ρ ρ1 ρ2 : Ren} {H H1 H2 : AH} {w w1 w2 : World} (hlow1 : ∀ id b, H1.get id = some b → id < H2.n)
    (h : Ext ρ H w ρ1 H1 w1) (hf : Free ρ H.n H2.n) (hsub : Sub ρ1 ρ2) (hsize : w1.heap.size ≤ w2.heap.size)
    (hframe : ∀ b : Nat, b < w1.heap.size → (∀ id ver l, (H1.get id).isSome = true → ρ1 id ver = some l → l.block ≠ b) → w2.heap[b]? = w1.heap[b]?)
    (hfresh : ∀ id ver l, ρ2 id ver = some l → ρ1 id ver = none → w1.heap.size ≤ l.block ∨ ∃ ver0 l0, (H1.get id).isSome = true ∧ ρ1 id ver0 = some l0 ∧ l0.block = l.block)
    (hdom : ∀ id ver l, ρ2 id ver = some l → ρ1 id ver = none → (H.n ≤ id ∧ id < H2.n) ∨ ((H1.get id).isSome = true ∧ ∃ ver0 l0, ρ1 id ver0 = some l0))
    (hn' : H1.n ≤ H2.n) (hkeep : ∀ id, (H1.get id).isSome = true → (H2.get id).isSome = true) (hnew : ∀ id, (H2.get id).isSome = true → (H1.get id).isSome = true ∨ H.n ≤ id) (hsame : w2.os = w1.os ∧ w2.output = w1.output)
    (hcells : ∀ b i v, ρ2.cell b i = some v → ρ1.cell b i = some v ∨ w1.heap.size ≤ b ∨ ∃ id ver l, (H1.get id).isSome = true ∧ ρ1 id ver = some l ∧ l.block = b) : Ext ρ H w ρ2 H2 w2 := by
  have hn := h.n
  refine ⟨h.sub.trans hsub, Nat.le_trans h.size hsize, ?_, ?_, ?_, Nat.le_trans hn hn', fun id hi => hkeep id (h.keep id hi), ?_, ⟨hsame.1.trans h.same.1, hsame.2.trans h.same.2⟩, ?_⟩
  · intro b hb himg
    rw [hframe b (Nat.lt_of_lt_of_le hb h.size) ?_, h.frame b hb himg]
    intro id ver l hs hl e
    cases hq : ρ id ver with
    | some l0 =>
      have : l0 = l := by have := h.sub id ver l0 hq; rw [hl] at this; exact (Option.some.inj this).symm
      subst this
      rcases h.new id hs with hs0 | hge
      · exact himg id ver l0 hs0 hq e
      · obtain ⟨b1, hb1⟩ := Option.isSome_iff_exists.1 hs
        have := hf id ver hge (hlow1 id b1 hb1)
        rw [hq] at this; cases this
    | none =>
      rcases h.fresh id ver l hl hq with h1 | ⟨ver0, l0, hs0, h0, e0⟩
      · omega
      · exact himg id ver0 l0 hs0 h0 (e0.trans e)
  · intro id ver l hl h0
    cases hq : ρ1 id ver with
    | some l1 =>
      have : l1 = l := by have := hsub id ver l1 hq; rw [hl] at this; exact (Option.some.inj this).symm
      subst this
      exact h.fresh id ver l1 hq h0
    | none =>
      rcases hfresh id ver l hl hq with h1 | ⟨ver0, l0, hs0, h01, e0⟩
      · exact .inl (Nat.le_trans h.size h1)
      · cases hq0 : ρ id ver0 with
        | some l2 =>
          have : l2 = l0 := by have := h.sub id ver0 l2 hq0; rw [h01] at this; exact (Option.some.inj this).symm
          subst this
          rcases h.new id hs0 with hs | hge
          · exact .inr ⟨ver0, l2, hs, hq0, e0⟩
          · obtain ⟨b1, hb1⟩ := Option.isSome_iff_exists.1 hs0
            have := hf id ver0 hge (hlow1 id b1 hb1)
            rw [hq0] at this; cases this
        | none =>
          rcases h.fresh id ver0 l0 h01 hq0 with h1 | ⟨ver1, l3, hs3, h3, e3⟩
          · exact .inl (by omega)
          · exact .inr ⟨ver1, l3, hs3, h3, e3.trans e0⟩
  · intro id ver l hl h0
    cases hq : ρ1 id ver with
    | some l1 =>
      have : l1 = l := by have := hsub id ver l1 hq; rw [hl] at this; exact (Option.some.inj this).symm
      subst this
      rcases h.dom id ver l1 hq h0 with ⟨h1, h2⟩ | h1
      · exact .inl ⟨h1, by omega⟩
      · exact .inr h1
    | none =>
      rcases hdom id ver l hl hq with h1 | ⟨h1, ver0, l0, h10⟩
      · exact .inl h1
      · rcases h.new id h1 with h3 | h3
        · cases hq0 : ρ id ver0 with
          | some l2 => exact .inr ⟨h3, ver0, l2, hq0⟩
          | none =>
            rcases h.dom id ver0 l0 h10 hq0 with ⟨h4, h5⟩ | h4
            · exact .inl ⟨h4, by omega⟩
            · exact .inr h4
        · obtain ⟨b1, hb1⟩ := Option.isSome_iff_exists.1 h1
          exact .inl ⟨h3, hlow1 id b1 hb1⟩
  · intro id hs
    rcases hnew id hs with h1 | h1
    · exact h.new id h1
    · exact .inr h1
  · intro b i v hv
    rcases hcells b i v hv with h1 | h1 | ⟨id, ver, l, h1, h2, h3⟩
    · exact h.cells b i v h1
    · exact .inr (.inl (Nat.le_trans h.size h1))
    · cases hq : ρ id ver with
      | some l0 =>
        have : l0 = l := by have := h.sub id ver l0 hq; rw [h2] at this; exact (Option.some.inj this).symm
        subst this
        rcases h.new id h1 with h4 | h4
        · exact .inr (.inr ⟨id, ver, l0, h4, hq, h3⟩)
        · obtain ⟨b1, hb1⟩ := Option.isSome_iff_exists.1 h1
          have := hf id ver h4 (hlow1 id b1 hb1)
          rw [hq] at this; cases this
      | none =>
        rcases h.fresh id ver l h2 hq with h4 | ⟨ver0, l0, h4, h5, h6⟩
        · exact .inr (.inl (by omega))
        · exact .inr (.inr ⟨id, ver0, l0, h4, h5, h6.trans h3⟩)

/-- Where no effect is, the heap only grows. -/
theorem Chain.calm {cs : Calls0} (hrec : CSOK P G cs) {ops : Array Oper} : ∀ (l : List Oper) (k : Nat) (tr : List Tr) (e : Env) (H : AH) (e2 : Env) (H2 : AH), Chain P cs ops k l tr e H e2 H2 →
    ∀ x ∈ tr, (∀ z ∈ tr, z.i < x.i → z.eff = none) → ∀ id, id < H.n → x.h.get id = H.get id := by
  intro l
  induction l with
  | nil =>
    intro k tr e H e2 H2 h x hx
    cases tr with
    | nil => simp at hx
    | cons x l => exact h.elim
  | cons o r ih =>
    intro k tr e H e2 H2 h x hx hz id hid
    cases tr with
    | nil => exact h.elim
    | cons x0 l =>
      obtain ⟨e', H', h1, h2⟩ := h
      simp only [List.mem_cons] at hx
      rcases hx with rfl | hx
      · rw [h1.2.2.2.1]
      · have hk := (h2.apart hrec _ _ _ _ _ _ _).2 x hx
        have he := hz x0 (by simp) (by rw [h1.1]; omega)
        have := ih _ _ _ _ _ _ h2 x hx (fun z hzz => hz z (List.mem_cons_of_mem x0 hzz)) id
        rcases h1.quiet hrec he with ⟨_, rfl⟩ | ⟨blk, hb1, hk1, rfl⟩
        · exact this hid
        · rw [this (by rw [push_n]; omega), AH.get_push hk1, if_neg (by omega)]

theorem Chain.between {cs : Calls0} (hrec : CSOK P G cs) {ops : Array Oper} : ∀ (l : List Oper) (k : Nat) (tr : List Tr) (e : Env) (H : AH) (e2 : Env) (H2 : AH), Chain P cs ops k l tr e H e2 H2 →
    ∀ y ∈ tr, ∀ b, y.nb = some b → ∀ x ∈ tr, y.i < x.i → (∀ z ∈ tr, y.i < z.i → z.i < x.i → z.eff = none) → x.h.get y.id = some b := by
  intro l
  induction l with
  | nil =>
    intro k tr e H e2 H2 h y hy
    cases tr with
    | nil => simp at hy
    | cons x l => exact h.elim
  | cons o r ih =>
    intro k tr e H e2 H2 h y hy b hb x hx hlt hz
    cases tr with
    | nil => exact h.elim
    | cons x0 l =>
      obtain ⟨e', H', h1, h2⟩ := h
      have hge := (h2.apart hrec _ _ _ _ _ _ _).2
      simp only [List.mem_cons] at hx hy
      rcases hy with rfl | hy
      · rcases hx with rfl | hx
        · omega
        · have hyi : y.i = k := h1.1
          have hyid : y.id = H.n := h1.2.2.2.2.1
          have he : y.eff = none := by
            cases hq : y.eff with
            | none => rfl
            | some G => rw [(h1.eff_some hrec hq).2.1] at hb; cases hb
          rcases h1.quiet hrec he with ⟨h3, _⟩ | ⟨blk, hb1, hk1, rfl⟩
          · rw [h3] at hb; cases hb
          · rw [h2.calm hrec _ _ _ _ _ _ _ x hx (fun z hzz hzx => hz z (List.mem_cons_of_mem y hzz) (by have := hge z hzz; omega) hzx) y.id (by rw [push_n]; omega), AH.get_push hk1, if_pos hyid, ← hb1, hb]
      · rcases hx with rfl | hx
        · have := hge y hy
          have := h1.1
          omega
        · exact ih _ _ _ _ _ _ h2 y hy b hb x hx hlt fun z hzz => hz z (List.mem_cons_of_mem x0 hzz)

/-- What a region's run in the text's order gave, and what was checked. -/
structure Given (P : Program) (cs : Calls0) (ops : Array Oper) (e : Env) (H : AH) (e2 : Env) (H2 : AH) (tr : List Tr) : Prop where
  hrec : CSOK P e.g.1 cs
  chain : Chain P cs ops 0 ops.toList tr e H e2 H2
  edges : edgesOk ops = true
  names : namesOk ops (Region.before ops) = true
  row : ∀ pre i A j B r, effectsOf tr = pre ++ (i, A) :: (j, B) :: r → bef ops i j
  same : ∀ x ∈ tr, x.want = true → x.eff = none → ∀ done todo, effectsOf tr = done ++ todo → (∀ y ∈ done, ¬ bef ops x.i y.1) → (∀ y ∈ todo, ¬ bef ops y.1 x.i) →
    ∀ ins, x.o.ins = some ins → looks (some ins) = true → insA P x.e x.h x.id ins = .simple x.v x.nb → insA P x.e (fillHeap H2.n tr (lastX H done)) x.id ins = .simple x.v x.nb ∧ ∀ b, x.nb = some b → (fillHeap H2.n tr (lastX H done)).get x.id = some b

section
variable {cs : Calls0} {ops : Array Oper} {e e2 : Env} {H H2 : AH} {tr : List Tr}

theorem Given.keys (g : Given P cs ops e H e2 H2 tr) : ∀ x ∈ tr, x.nb ≠ none → okKey x.id = true := fun x hx hn => ((g.chain.mono g.hrec _ _ _ _ _ _ _).2 x hx |>.2.2 hn).2

theorem Given.one (g : Given P cs ops e H e2 H2 tr) {y : Tr} (hy : y ∈ tr) {b : ABlk} (hb : y.nb = some b) : ∀ x ∈ tr, x.nb ≠ none → x.id = y.id → x.nb = some b := fun x hx hn hi => by
  have := g.chain.unique g.hrec _ _ _ _ _ _ _ x hx y hy hn (by rw [hb]; simp) hi
  rw [this]; exact hb

theorem Given.pw (g : Given P cs ops e H e2 H2 tr) : tr.Pairwise Apart := (g.chain.apart g.hrec _ _ _ _ _ _ _).1

theorem Given.made (g : Given P cs ops e H e2 H2 tr) {G : AH} {y : Tr} {b : ABlk} (hy : y ∈ tr) (hb : y.nb = some b) (hge : G.n ≤ y.id) : (fillHeap H2.n tr G).get y.id = some b :=
  fill_made _ _ _ _ _ g.keys (g.one hy hb) hy hb hge

/-- A record with a block: its block is sound. -/
theorem Given.wf (g : Given P cs ops e H e2 H2 tr) {y : Tr} (hy : y ∈ tr) {c : CBlk} (hb : y.nb = some (.cells c)) : c.WF := by
  obtain ⟨p, hp, _⟩ := g.chain.oper _ _ _ _ _ _ _ rfl y hy
  obtain ⟨x, e1, H1, e1', H1', hx, hs, _, _⟩ := g.chain.at g.hrec hp
  have : x = y := pw_eq g.pw hx hy hs.1
  subst this
  have h := hs.2.2.2.2.2.2.2
  rcases h with ⟨_, _, h1, _⟩ | ⟨_, b, h1, _⟩
  · rw [hb] at h1; cases h1
  · obtain ⟨i, _, hc⟩ := did_cases g.hrec h1
    rcases hc with ⟨h2, _⟩ | ⟨blk, h2, _, _, _, h3⟩ | ⟨h2, _⟩
    · rw [hb] at h2; cases h2
    · rw [hb] at h2; cases h2
      exact insA_wf h3 c rfl
    · rw [hb] at h2; cases h2

/-- How far a run is, when it has done `S`. -/
structure Mid (g : Given P cs ops e H e2 H2 tr) (ρ0 : Ren) (B : Nat) (w0 : World) (S : Nat → Bool) (done todo : List (Nat × AH)) (ρ : Ren) (a : Act) (w : World) : Prop where
  closed : ∀ i j, S j = true → bef ops i j → S i = true
  split : effectsOf tr = done ++ todo
  past : ∀ y ∈ done, S y.1 = true
  rest : ∀ y ∈ todo, S y.1 = false
  low : Low (lastX H done)
  rel : Rel ρ B (fillHeap H2.n tr (lastX H done)) w
  ext : Ext ρ0 H w0 ρ (fillHeap H2.n tr (lastX H done)) w
  born : ∀ id ver l, H.n ≤ id → id < H2.n → ρ id ver = some l → ∃ z ∈ tr, S z.i = true ∧ z.id ≤ id ∧ id < endOf z
  env : ERel ρ (envS S tr e) a

/-- The next one is at hand. -/
structure Next1 (ops : Array Oper) (S : Nat → Bool) (i : Nat) (o : Oper) : Prop where
  op : ops[i]? = some o
  new : S i = false
  ahead : ∀ j, bef ops j i → S j = true

def plus (S : Nat → Bool) (i : Nat) : Nat → Bool := fun j => if j = i then true else S j

theorem Mid.names {g : Given P cs ops e H e2 H2 tr} {ρ0 ρ : Ren} {B : Nat} {w0 w : World} {S : Nat → Bool} {done todo : List (Nat × AH)} {a : Act} (m : Mid g ρ0 B w0 S done todo ρ a w) {i : Nat} {o : Oper} (hn : Next1 ops S i o) :
    ∀ t ∈ namesOf o ops, ∀ y ∈ tr, y.o.dst = some t → S y.i = decide (y.i < i) := by
  intro t ht y hy hd
  obtain ⟨p, hp, ho⟩ := g.chain.oper _ _ _ _ _ _ _ rfl y hy
  have hpd : p.dst = some t := by rw [ho] at hd; exact hd
  by_cases hi : y.i = i
  · rw [hi, hn.new]; simp
  · have hb := names_spec g.names hn.op hp (fun h => hi h.symm) hpd ht
    rcases Nat.lt_or_ge y.i i with hlt | hge
    · rw [Nat.min_eq_right (by omega), Nat.max_eq_left (by omega)] at hb
      rw [hn.ahead _ hb]; simp [hlt]
    · rw [Nat.min_eq_left (by omega), Nat.max_eq_right (by omega)] at hb
      have : S y.i = false := by
        cases hq : S y.i with
        | false => rfl
        | true => have := m.closed _ _ hq hb; rw [hn.new] at this; cases this
      rw [this]; simp; omega

theorem Mid.get {g : Given P cs ops e H e2 H2 tr} {ρ0 ρ : Ren} {B : Nat} {w0 w : World} {S : Nat → Bool} {done todo : List (Nat × AH)} {a : Act} (m : Mid g ρ0 B w0 S done todo ρ a w) {i : Nat} {o : Oper} (hn : Next1 ops S i o) :
    ∀ t ∈ namesOf o ops, (envS S tr e).get t = (envS (fun j => decide (j < i)) tr e).get t := fun t ht =>
  envS_get tr e e (by have := m.env.ok; rwa [envS_n] at this) rfl rfl fun y hy hd => m.names hn t ht y hy hd

/-- The frame behind the next one. -/
theorem Mid.env' {g : Given P cs ops e H e2 H2 tr} {ρ0 ρ ρ' : Ren} {B : Nat} {w0 w : World} {S : Nat → Bool} {done todo : List (Nat × AH)} {a : Act} (m : Mid g ρ0 B w0 S done todo ρ a w) {i : Nat} {o : Oper} (hn : Next1 ops S i o)
    {x : Tr} (hx : x ∈ tr) (hi : x.i = i) (ho : x.o = compO P ops o) (hs : Sub ρ ρ') {v' : Value} (hv : VR ρ' x.v v') : ERel ρ' (envS (plus S i) tr e) (a.put o.dst v') := by
  have h1 := (m.env.mono hs).put hv o.dst
  have hd : x.o.dst = o.dst := by rw [ho]; rfl
  refine h1.congr (by rw [Env.put_n, envS_n, envS_n]) (by rw [Env.put_g, envS_g, envS_g]) fun t => ?_
  rw [← hd]
  refine envS_add tr e (by have := m.env.ok; rwa [envS_n] at this) hx g.pw (by rw [hi]; exact hn.new) (by simp [plus, hi]) (fun y hy hne => by simp [plus, ← hi, hne]) ?_ t
  intro y hy d hxd hyd hlt
  rw [hd] at hxd
  rw [m.names hn d (by simp [namesOf, hxd]) y hy hyd]
  simp; omega

theorem Mid.closed' {g : Given P cs ops e H e2 H2 tr} {ρ0 ρ : Ren} {B : Nat} {w0 w : World} {S : Nat → Bool} {done todo : List (Nat × AH)} {a : Act} (m : Mid g ρ0 B w0 S done todo ρ a w) {i : Nat} {o : Oper} (hn : Next1 ops S i o) :
    ∀ k j, plus S i j = true → bef ops k j → plus S i k = true := by
  intro k j hj hb
  unfold plus at hj ⊢
  split
  · rfl
  · split at hj
    · rename_i h; subst h; exact hn.ahead _ hb
    · exact m.closed _ _ hj hb

theorem plus_of {S : Nat → Bool} {i j : Nat} (h : S j = true) : plus S i j = true := by
  unfold plus
  split
  · rfl
  · exact h

/-- One that has no effect and makes no block. -/
theorem Mid.still {g : Given P cs ops e H e2 H2 tr} {ρ0 ρ : Ren} {B : Nat} {w0 w : World} {S : Nat → Bool} {done todo : List (Nat × AH)} {a : Act} (m : Mid g ρ0 B w0 S done todo ρ a w) {i : Nat} {o : Oper} (hn : Next1 ops S i o)
    {x : Tr} (hx : x ∈ tr) (hi : x.i = i) (ho : x.o = compO P ops o) (he : x.eff = none) {v' : Value} (hv : VR ρ x.v v') : Mid g ρ0 B w0 (plus S i) done todo ρ (a.put o.dst v') w := by
  refine ⟨m.closed' hn, m.split, fun y hy => plus_of (m.past y hy), fun y hy => ?_, m.low, m.rel, m.ext, fun id ver l h1 h2 h3 => ?_, m.env' hn hx hi ho (.refl ρ) hv⟩
  · unfold plus
    split
    · rename_i h
      exfalso
      have : y ∈ effectsOf tr := by rw [m.split]; simp [hy]
      obtain ⟨z, hz, h1, h2⟩ := (mem_effects _ _).1 this
      have := pw_eq g.pw hz hx (by rw [h1, h, hi])
      rw [this, he] at h2; cases h2
    · exact m.rest y hy
  · obtain ⟨z, hz, h4, h5⟩ := m.born id ver l h1 h2 h3
    exact ⟨z, hz, plus_of h4, h5⟩

/-- One that makes a block. -/
theorem Mid.block {g : Given P cs ops e H e2 H2 tr} {ρ0 ρ : Ren} {B : Nat} {w0 w w' : World} {S : Nat → Bool} {done todo : List (Nat × AH)} {a : Act} (hfree : Free ρ0 H.n H2.n) (m : Mid g ρ0 B w0 S done todo ρ a w) {i : Nat} {o : Oper} (hn : Next1 ops S i o)
    {x : Tr} (hx : x ∈ tr) (hi : x.i = i) (ho : x.o = compO P ops o) (he : x.eff = none) {b : ABlk} (hnb : x.nb = some b) {obj : Obj} {l : Loc} (hp : w'.heap = w.heap.push obj) (hsame : w'.os = w.os ∧ w'.output = w.output) (hl : l.block = w.heap.size) {v' : Value}
    (hb : ∀ ρ', Sub ρ ρ' → ρ' x.id 0 = some l → VR ρ' x.v v' ∧ BRel ρ' w' b 0 l) (hX : (fillHeap H2.n tr (lastX H done)).get x.id = some b) : Mid g ρ0 B w0 (plus S i) done todo (ρ.add x.id 0 l) (a.put o.dst v') w' := by
  obtain ⟨hid1, _, hid2⟩ := (g.chain.mono g.hrec _ _ _ _ _ _ _).2 x hx
  have hid2 := (hid2 (by rw [hnb]; simp)).1
  have hend : endOf x = x.id + 1 := by unfold endOf; rw [he, hnb]
  have hnone : ∀ ver, ρ x.id ver = none := by
    intro ver
    cases hq : ρ x.id ver with
    | none => rfl
    | some l0 =>
      exfalso
      obtain ⟨z, hz, h4, h5, h6⟩ := m.born _ _ _ hid1 hid2 hq
      have := pw_range g.pw hz hx h5 h6 (Nat.le_refl _) (by omega)
      rw [this, hi, hn.new] at h4; cases h4
  have hsub : Sub ρ (ρ.add x.id 0 l) := Ren.sub_add (hnone 0)
  have hrel : Rel (ρ.add x.id 0 l) B (fillHeap H2.n tr (lastX H done)) w' :=
    m.rel.born hp hl hnone (b := b) (fun j => by split <;> simp_all) (fun ρ' a b => (hb ρ' a b).2) (fun c hc => m.rel.wf _ c (by rw [hX, hc])) m.rel.low
  refine ⟨m.closed' hn, m.split, fun y hy => plus_of (m.past y hy), fun y hy => ?_, m.low, hrel, ?_, fun id ver l2 h1 h2 h3 => ?_, m.env' hn hx hi ho hsub (hb _ hsub (Ren.add_self _ _ _ _)).1⟩
  · unfold plus
    split
    · rename_i h
      exfalso
      have : y ∈ effectsOf tr := by rw [m.split]; simp [hy]
      obtain ⟨z, hz, h1, h2⟩ := (mem_effects _ _).1 this
      have := pw_eq g.pw hz hx (by rw [h1, h, hi])
      rw [this, he] at h2; cases h2
    · exact m.rest y hy
  · have hfn : (fillHeap H2.n tr (lastX H done)).n = H2.n := fill_n _ _ _
    refine m.ext.trans2 m.rel.low (by rw [hfn]; exact hfree) hsub (by rw [hp]; simp) (fun b' hb' _ => by rw [hp, Array.getElem?_push, if_neg (by omega)]) ?_ ?_ (Nat.le_refl _) (fun _ h => h) (fun _ h => .inl h) hsame (fun b' i' v2 h => .inl h)
    · intro id ver l2 h1 h2
      rcases Ren.add_cases h1 with ⟨_, _, h3⟩ | h3
      · rw [h3]; exact .inl (by omega)
      · rw [h2] at h3; cases h3
    · intro id ver l2 h1 h2
      rcases Ren.add_cases h1 with ⟨h3, _, _⟩ | h3
      · rw [hfn, h3]; exact .inl ⟨hid1, hid2⟩
      · rw [h2] at h3; cases h3
  · rcases Ren.add_cases h3 with ⟨h4, _, _⟩ | h4
    · exact ⟨x, hx, by simp [plus, hi], by omega, by omega⟩
    · obtain ⟨z, hz, h5, h6⟩ := m.born id ver l2 h1 h2 h4
      exact ⟨z, hz, plus_of h5, h6⟩

theorem Given.le_end (g : Given P cs ops e H e2 H2 tr) {z : Tr} (hz : z ∈ tr) : z.id ≤ endOf z := by
  obtain ⟨p, hp1, _⟩ := g.chain.oper _ _ _ _ _ _ _ rfl z hz
  obtain ⟨y2, e1, H1, e1', H1', hy2, hs2, _, _⟩ := g.chain.at g.hrec hp1
  have := pw_eq g.pw hy2 hz hs2.1
  subst this
  rw [hs2.endOf_eq g.hrec, hs2.2.2.2.2.1]
  exact hs2.mono g.hrec

/-- Effects ahead of the next one: none has gone further than the heap that stands. -/
theorem Mid.past_le {g : Given P cs ops e H e2 H2 tr} {ρ0 ρ : Ren} {B : Nat} {w0 w : World} {S : Nat → Bool} {done rest : List (Nat × AH)} {i : Nat} {G : AH} {a : Act} (m : Mid g ρ0 B w0 S done ((i, G) :: rest) ρ a w)
    {z : Tr} (hz : z ∈ tr) {Gz : AH} (he : z.eff = some Gz) (hlt : z.i < i) : Gz.n ≤ (lastX H done).n := by
  have hmem : (z.i, Gz) ∈ effectsOf tr := (mem_effects _ _).2 ⟨z, hz, rfl, he⟩
  have hpw := effects_pw g.pw
  rw [m.split] at hmem hpw
  have hpw2 := List.pairwise_append.1 hpw
  have hdone : (z.i, Gz) ∈ done := by
    simp only [List.mem_append, List.mem_cons] at hmem
    rcases hmem with h | h | h
    · exact h
    · simp only [Prod.mk.injEq] at h; omega
    · have := (List.pairwise_cons.1 hpw2.2.1).1 _ h
      simp only at this
      omega
  rcases List.eq_nil_or_concat done with h | ⟨A, p, h⟩
  · rw [h] at hdone; simp at hdone
  · obtain ⟨jl, Gl⟩ := p
    rw [List.concat_eq_append] at h
    have hl : lastX H done = Gl := by rw [h]; exact lastX_append _ _ _ _
    have hml : (jl, Gl) ∈ effectsOf tr := by rw [m.split, h]; simp
    obtain ⟨zl, hzl, h1, h2⟩ := (mem_effects _ _).1 hml
    have e1 : endOf zl = Gl.n := by unfold endOf; rw [h2]
    have e2 : endOf z = Gz.n := by unfold endOf; rw [he]
    rw [hl]
    rcases pw_cases g.pw hz hzl with h3 | h3 | h3
    · rw [h3] at e2; omega
    · have := h3.2
      have := g.le_end hzl
      omega
    · exfalso
      have h4 := h3.1
      simp only at h1
      have h5 := hpw2.1
      rw [h] at h5 hdone
      have h6 := (List.pairwise_append.1 h5).2.2
      simp only [List.mem_append, List.mem_singleton, Prod.mk.injEq] at hdone
      rcases hdone with h7 | h7
      · have := h6 _ h7 (jl, Gl) (by simp)
        simp only at this
        omega
      · omega

/-- One that has an effect: it is the next of them; where it runs; what is then. -/
theorem Mid.effect {g : Given P cs ops e H e2 H2 tr} {ρ0 ρ : Ren} {B : Nat} {w0 w : World} {S : Nat → Bool} {done todo : List (Nat × AH)} {a : Act} (hfree : Free ρ0 H.n H2.n) (m : Mid g ρ0 B w0 S done todo ρ a w) {i : Nat} {o : Oper} (hn : Next1 ops S i o)
    {x : Tr} (hx : x ∈ tr) (hi : x.i = i) (ho : x.o = compO P ops o) {G : AH} (he : x.eff = some G) (hG : G.n ≤ H2.n) (hidh : x.id = x.h.n) (hmono : x.h.n ≤ G.n) :
    Rel ρ B x.h w ∧ Free ρ x.h.n G.n ∧ ∀ ρ' v' w', VR ρ' x.v v' → Post ρ B x.h w ρ' G w' → ∃ done' todo', Mid g ρ0 B w0 (plus S i) done' todo' ρ' (a.put o.dst v') w' := by
  have hmem : (i, G) ∈ effectsOf tr := (mem_effects _ _).2 ⟨x, hx, hi, he⟩
  have hend : endOf x = G.n := by unfold endOf; rw [he]
  obtain ⟨rest, htodo⟩ : ∃ rest, todo = (i, G) :: rest := by
    have h1 : (i, G) ∈ todo := by
      rw [m.split, List.mem_append] at hmem
      rcases hmem with h | h
      · have := m.past _ h; rw [hn.new] at this; cases this
      · exact h
    cases todo with
    | nil => simp at h1
    | cons p r =>
      by_cases hpi : p = (i, G)
      · exact ⟨r, by rw [hpi]⟩
      · exfalso
        have h2 : (i, G) ∈ r := by
          simp only [List.mem_cons] at h1
          rcases h1 with h | h
          · exact absurd h.symm hpi
          · exact h
        obtain ⟨A, C, hAC⟩ := List.append_of_mem h2
        have h3 : ∃ A' j0 G0, p :: A = A' ++ [(j0, G0)] := by
          refine ⟨(p :: A).dropLast, ((p :: A).getLast (by simp)).1, ((p :: A).getLast (by simp)).2, ?_⟩
          exact (List.dropLast_concat_getLast (by simp)).symm
        obtain ⟨A', j0, G0, h3⟩ := h3
        have h4 : effectsOf tr = (done ++ A') ++ (j0, G0) :: (i, G) :: C := by
          rw [m.split, hAC, show p :: (A ++ (i, G) :: C) = (p :: A) ++ (i, G) :: C from rfl, h3]; simp
        have h5 : bef ops j0 i := g.row _ _ _ _ _ _ h4
        have h6 := hn.ahead _ h5
        have h7 : (j0, G0) ∈ p :: r := by
          have : (j0, G0) ∈ p :: A := by rw [h3]; simp
          simp only [List.mem_cons] at this ⊢
          rcases this with h | h
          · exact .inl h
          · exact .inr (by rw [hAC]; simp [h])
        rw [m.rest _ h7] at h6
        cases h6
  subst htodo
  obtain ⟨x2, hx2, hi2, he2, hahead, hlowget, hhigh⟩ := g.chain.ahead g.hrec _ _ _ _ _ _ _ done i G rest m.split m.low
  have hxx : x2 = x := pw_eq g.pw hx2 hx (by rw [hi2, hi])
  subst hxx
  have hfn : ∀ G, (fillHeap H2.n tr G).n = H2.n := fun G => fill_n _ _ _
  have hXh : ∀ id b, x2.h.get id = some b → (fillHeap H2.n tr (lastX H done)).get id = some b := by
    intro id b hb
    by_cases hlt : id < (lastX H done).n
    · rw [fill_low _ _ _ g.keys id hlt, ← hlowget id hlt]; exact hb
    · obtain ⟨y, hy, h1, h2, _⟩ := hhigh id b (by omega) hb
      rw [← h2]
      exact g.made hy h1 (by omega)
  have hhlow : ∀ id b, x2.h.get id = some b → id < x2.h.n := by
    intro id b hb
    by_cases hlt : id < (lastX H done).n
    · omega
    · obtain ⟨y, hy, h1, h2, h3⟩ := hhigh id b (by omega) hb
      exact h3
  have hrel : Rel ρ B x2.h w := ⟨fun id ver l b h1 h2 => m.rel.blk id ver l b h1 (hXh id b h2), fun id b h => m.rel.wf id b (hXh id _ h), hhlow, m.rel.sep, m.rel.bnd, m.rel.base, ⟨m.rel.fz.cell, fun id ver l i v b h1 h2 h3 => m.rel.fz.sep id ver l i v b h1 h2 (hXh id b h3)⟩⟩
  have hidge : H.n ≤ x2.id := ((g.chain.mono g.hrec _ _ _ _ _ _ _).2 x2 hx).1
  refine ⟨hrel, ?_, ?_⟩
  · intro id ver h1 h2
    cases hq : ρ id ver with
    | none => rfl
    | some l0 =>
      exfalso
      obtain ⟨z, hz, h4, h5, h6⟩ := m.born id ver l0 (by omega) (by omega) hq
      have := pw_range g.pw hz hx h5 h6 (by omega) (by omega)
      rw [this, hi, hn.new] at h4; cases h4
  · intro ρ' v' w' hv hp
    have hlx : lastX H (done ++ [(i, G)]) = G := lastX_append _ _ _ _
    have hinv : ∀ id b, (fillHeap H2.n tr G).get id = some b → G.get id = some b ∨ ((fillHeap H2.n tr (lastX H done)).get id = some b ∧ G.n ≤ id ∧ id < H2.n ∧ ∀ c, b = .cells c → c.WF) := by
      intro id b hb
      rcases fill_inv _ _ _ _ _ g.keys hb with h | ⟨y, hy, h1, h2, h3⟩
      · exact .inl h
      · refine .inr ⟨?_, h3, ?_, fun c hc => g.wf hy (by rw [h1, hc])⟩
        · rw [← h2]; exact g.made hy h1 (by omega)
        · have := ((g.chain.mono g.hrec _ _ _ _ _ _ _).2 y hy).2.2 (by rw [h1]; simp); omega
    have hfill : ∀ id b, (fillHeap H2.n tr (lastX H done)).get id = some b → G.n ≤ id → (fillHeap H2.n tr G).get id = some b := by
      intro id b hb hge
      rcases fill_inv _ _ _ _ _ g.keys hb with h | ⟨y, hy, h1, h2, h3⟩
      · have := m.low id b h; omega
      · rw [← h2]; exact g.made hy h1 (by omega)
    have hrel' : Rel ρ' B (fillHeap H2.n tr G) w' := by
      refine ⟨?_, ?_, ?_, hp.rel.sep, hp.rel.bnd, hp.rel.base, ⟨hp.rel.fz.cell, ?_⟩⟩
      · intro id ver l b hl hb
        rcases hinv id b hb with h | ⟨h, hge, hlt, _⟩
        · exact hp.rel.blk id ver l b hl h
        · cases hq : ρ id ver with
          | some l0 =>
            have : l0 = l := by have := hp.ext.sub id ver l0 hq; rw [hl] at this; exact (Option.some.inj this).symm
            subst this
            have hbd := (hrel.bnd _ _ _ hq).2
            refine (m.rel.blk id ver l0 b hq h).keep hp.ext.sub (hp.ext.frame _ hbd ?_)
            intro id' ver' l' h1 h2 h3
            have := hrel.sep _ _ _ _ _ _ h2 hq h3
            subst this
            obtain ⟨b1, hb1⟩ := Option.isSome_iff_exists.1 h1
            have := hhlow _ _ hb1
            omega
          | none =>
            exfalso
            rcases hp.ext.dom id ver l hl hq with ⟨_, h2⟩ | ⟨h2, _⟩
            · omega
            · obtain ⟨b1, hb1⟩ := Option.isSome_iff_exists.1 h2
              have := hhlow _ _ hb1
              omega
      · intro id c hc
        rcases hinv id _ hc with h | ⟨_, _, _, h⟩
        · exact hp.rel.wf id c h
        · exact h c rfl
      · intro id b hb
        rw [hfn]
        rcases hinv id b hb with h | ⟨_, _, h, _⟩
        · have := hp.rel.low id b h; omega
        · exact h
      · intro id ver l i' v2 b hl hc hb
        rcases hinv id b hb with h | ⟨h, hge, hlt, _⟩
        · exact hp.rel.fz.sep id ver l i' v2 b hl hc h
        · cases hq : ρ id ver with
          | some l0 =>
            have : l0 = l := by have := hp.ext.sub id ver l0 hq; rw [hl] at this; exact (Option.some.inj this).symm
            subst this
            refine m.rel.fz.sep id ver l0 i' v2 b hq ?_ h
            rcases hp.ext.cells _ _ _ hc with h1 | h1 | ⟨id', ver', l', h1, h2, h3⟩
            · exact h1
            · have := (hrel.bnd _ _ _ hq).2
              omega
            · exfalso
              have := hrel.sep _ _ _ _ _ _ h2 hq h3
              subst this
              obtain ⟨b1, hb1⟩ := Option.isSome_iff_exists.1 h1
              have := hhlow _ _ hb1
              omega
          | none =>
            exfalso
            rcases hp.ext.dom id ver l hl hq with ⟨_, h2⟩ | ⟨h2, _⟩
            · omega
            · obtain ⟨b1, hb1⟩ := Option.isSome_iff_exists.1 h2
              have := hhlow _ _ hb1
              omega
    have hsome : ∀ id, (x2.h.get id).isSome = true → ((fillHeap H2.n tr (lastX H done)).get id).isSome = true := by
      intro id h
      obtain ⟨b, hb⟩ := Option.isSome_iff_exists.1 h
      rw [hXh id b hb]; rfl
    refine ⟨done ++ [(i, G)], rest, m.closed' hn, by rw [m.split]; simp, ?_, ?_, ?_, by rw [hlx]; exact hrel', ?_, ?_, m.env' hn hx hi ho hp.ext.sub hv⟩
    · intro y hy
      simp only [List.mem_append, List.mem_singleton] at hy
      rcases hy with hy | rfl
      · exact plus_of (m.past y hy)
      · simp [plus]
    · intro y hy
      have h1 := effects_pw g.pw
      rw [m.split, List.pairwise_append] at h1
      have h2 := (List.pairwise_cons.1 h1.2.1).1 y hy
      simp only at h2
      unfold plus
      rw [if_neg (by omega)]
      exact m.rest y (by simp [hy])
    · rw [hlx]; exact hp.rel.low
    · rw [hlx]
      refine m.ext.trans2 (fun id b hb => by have := m.rel.low id b hb; rw [hfn] at this; rw [hfn]; exact this) (by rw [hfn]; exact hfree) hp.ext.sub hp.ext.size ?_ ?_ ?_ (by rw [hfn, hfn]; exact Nat.le_refl _) ?_ ?_ hp.ext.same ?_
      · intro b hb himg
        exact hp.ext.frame b hb fun id ver l h1 h2 => himg id ver l (hsome id h1) h2
      · intro id ver l h1 h2
        rcases hp.ext.fresh id ver l h1 h2 with h3 | ⟨ver0, l0, h3, h4⟩
        · exact .inl h3
        · exact .inr ⟨ver0, l0, hsome id h3, h4⟩
      · intro id ver l h1 h2
        rw [hfn]
        rcases hp.ext.dom id ver l h1 h2 with ⟨h3, h4⟩ | ⟨h3, h4⟩
        · exact .inl ⟨by omega, by omega⟩
        · exact .inr ⟨hsome id h3, h4⟩
      · intro id h1
        obtain ⟨b, hb⟩ := Option.isSome_iff_exists.1 h1
        by_cases hlt : id < G.n
        · by_cases hx3 : (x2.h.get id).isSome = true
          · have := hp.ext.keep id hx3
            rw [fill_low _ _ _ g.keys id hlt]; exact this
          · exfalso
            rcases fill_inv _ _ _ _ _ g.keys hb with h | ⟨y, hy, h1, h2, h3⟩
            · have h4 := m.low id b h
              rw [hlowget id h4, h] at hx3
              exact hx3 rfl
            · have hyn : y.nb ≠ none := by rw [h1]; simp
              have hye : y.eff = none := by
                cases hq : y.eff with
                | none => rfl
                | some Gy =>
                  exfalso
                  obtain ⟨p, hp1, _⟩ := g.chain.oper _ _ _ _ _ _ _ rfl y hy
                  obtain ⟨y2, e1, H1, e1', H1', hy2, hs2, _, _⟩ := g.chain.at g.hrec hp1
                  have := pw_eq g.pw hy2 hy hs2.1
                  subst this
                  exact hyn (hs2.eff_some g.hrec hq).2.1
              have hyend : endOf y = y.id + 1 := by unfold endOf; rw [hye, h1]
              rcases pw_cases g.pw hy hx with h5 | h5 | h5
              · rw [h5, he] at hye; cases hye
              · have := g.chain.between g.hrec _ _ _ _ _ _ _ y hy b h1 x2 hx h5.1 ?_
                · rw [h2] at this; rw [this] at hx3; exact hx3 rfl
                · intro z hz hz1 hz2
                  cases hq : z.eff with
                  | none => rfl
                  | some Gz =>
                    exfalso
                    have h6 := m.past_le hz hq (by omega)
                    have h7 : endOf z = Gz.n := by unfold endOf; rw [hq]
                    rcases pw_cases g.pw hy hz with h8 | h8 | h8
                    · rw [h8] at hz1; omega
                    · have := h8.2
                      have := g.le_end hz
                      omega
                    · have := h8.1; omega
              · have := h5.2; omega
        · rw [hfill id b hb (by omega)]; rfl
      · intro id h1
        obtain ⟨b, hb⟩ := Option.isSome_iff_exists.1 h1
        rcases hinv id b hb with h | ⟨h, _⟩
        · rcases hp.ext.new id (by rw [h]; rfl) with h2 | h2
          · exact .inl (hsome id h2)
          · exact .inr (by omega)
        · exact .inl (by rw [h]; rfl)
      · intro b i' v2 hv2
        rcases hp.ext.cells b i' v2 hv2 with h1 | h1 | ⟨id, ver, l, h1, h2, h3⟩
        · exact .inl h1
        · exact .inr (.inl h1)
        · exact .inr (.inr ⟨id, ver, l, hsome id h1, h2, h3⟩)
    · intro id ver l h1 h2 h3
      cases hq : ρ id ver with
      | some l0 =>
        obtain ⟨z, hz, h5, h6⟩ := m.born id ver l0 h1 h2 hq
        exact ⟨z, hz, plus_of h5, h6⟩
      | none =>
        rcases hp.ext.dom id ver l h3 hq with ⟨h4, h5⟩ | ⟨_, ver0, l0, h4⟩
        · exact ⟨x2, hx, by simp [plus, hi], by omega, by omega⟩
        · obtain ⟨z, hz, h5, h6⟩ := m.born id ver0 l0 h1 h2 h4
          exact ⟨z, hz, plus_of h5, h6⟩

end
end
end Go.Den
