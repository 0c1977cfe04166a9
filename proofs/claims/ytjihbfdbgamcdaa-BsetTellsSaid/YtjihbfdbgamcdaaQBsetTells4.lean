/-
  PARTS OF A PROOF, joined by a program (4 of 7): a proved reckoner of the model, and what the functions come to.
-/
import Derived.Test.YtjihbfdbgamcdaaQBsetTells3
import Derived.LoopN
import Derived.ChangeSame
set_option linter.unusedVariables false
set_option linter.unusedSimpArgs false
namespace Go.Den
noncomputable section
variable {P : Program} {G : Nat → Option (List Value)}
theorem Ext.trans2 {ρ ρ1 ρ2 : Ren} {H H1 H2 : AH} {w w1 w2 : World} (hlow1 : ∀ id b, H1.get id = some b → id < H2.n)
  (h : Ext ρ H w ρ1 H1 w1) (hf : Free ρ H.n H2.n) (hsub : Sub ρ1 ρ2) (hsize : w1.heap.size ≤ w2.heap.size)
  (hframe : ∀ b : Nat, b < w1.heap.size → (∀ id ver l, (H1.get id).isSome = true → ρ1 id ver = some l → l.block ≠ b) → w2.heap[b]? = w1.heap[b]?)
  (hfresh : ∀ id ver l, ρ2 id ver = some l → ρ1 id ver = none → w1.heap.size ≤ l.block ∨ ∃ ver0 l0, (H1.get id).isSome = true ∧ ρ1 id ver0 = some l0 ∧ l0.block = l.block)
  (hdom : ∀ id ver l, ρ2 id ver = some l → ρ1 id ver = none → (H.n ≤ id ∧ id < H2.n) ∨ ((H1.get id).isSome = true ∧ ∃ ver0 l0, ρ1 id ver0 = some l0))
  (hn' : H1.n ≤ H2.n) (hkeep : ∀ id, (H1.get id).isSome = true → (H2.get id).isSome = true) (hnew : ∀ id, (H2.get id).isSome = true → (H1.get id).isSome = true ∨ H.n ≤ id) (hsame : w2.os = w1.os ∧ w2.output = w1.output)
  (hcells : ∀ b i v, ρ2.cell b i = some v → ρ1.cell b i = some v ∨ w1.heap.size ≤ b ∨ ∃ id ver l, (H1.get id).isSome = true ∧ ρ1 id ver = some l ∧ l.block = b) : Ext ρ H w ρ2 H2 w2 := by
 have hn := h.n
 refine ⟨h.sub.trans hsub, Nat.le_trans h.size hsize, ?_, ?_, ?_, Nat.le_trans hn hn', fun id hi => hkeep id (h.keep id hi), ?_, ⟨hsame.1.trans h.same.1, hsame.2.trans h.same.2⟩, ?_⟩
 ·intro b hb himg
  rw [hframe b (Nat.lt_of_lt_of_le hb h.size) ?_, h.frame b hb himg]
  intro id ver l hs hl e
  cases hq : ρ id ver with
  | some l0 =>
   have : l0 = l := by have := h.sub id ver l0 hq; rw [hl] at this; exact (Option.some.inj this).symm
   subst this
   rcases h.new id hs with hs0 | hge
   ·exact himg id ver l0 hs0 hq e
   ·obtain ⟨b1, hb1⟩ := Option.isSome_iff_exists.1 hs
    have := hf id ver hge (hlow1 id b1 hb1)
    rw [hq] at this; cases this
  | none =>
   rcases h.fresh id ver l hl hq with h1 | ⟨ver0, l0, hs0, h0, e0⟩
   ·omega
   ·exact himg id ver0 l0 hs0 h0 (e0.trans e)
 ·intro id ver l hl h0
  cases hq : ρ1 id ver with
  | some l1 =>
   have : l1 = l := by have := hsub id ver l1 hq; rw [hl] at this; exact (Option.some.inj this).symm
   subst this
   exact h.fresh id ver l1 hq h0
  | none =>
   rcases hfresh id ver l hl hq with h1 | ⟨ver0, l0, hs0, h01, e0⟩
   ·exact .inl (Nat.le_trans h.size h1)
   ·cases hq0 : ρ id ver0 with
    | some l2 =>
     have : l2 = l0 := by have := h.sub id ver0 l2 hq0; rw [h01] at this; exact (Option.some.inj this).symm
     subst this
     rcases h.new id hs0 with hs | hge
     ·exact .inr ⟨ver0, l2, hs, hq0, e0⟩
     ·obtain ⟨b1, hb1⟩ := Option.isSome_iff_exists.1 hs0
      have := hf id ver0 hge (hlow1 id b1 hb1)
      rw [hq0] at this; cases this
    | none =>
     rcases h.fresh id ver0 l0 h01 hq0 with h1 | ⟨ver1, l3, hs3, h3, e3⟩
     ·exact .inl (by omega)
     ·exact .inr ⟨ver1, l3, hs3, h3, e3.trans e0⟩
 ·intro id ver l hl h0
  cases hq : ρ1 id ver with
  | some l1 =>
   have : l1 = l := by have := hsub id ver l1 hq; rw [hl] at this; exact (Option.some.inj this).symm
   subst this
   rcases h.dom id ver l1 hq h0 with ⟨h1, h2⟩ | h1
   ·exact .inl ⟨h1, by omega⟩
   ·exact .inr h1
  | none =>
   rcases hdom id ver l hl hq with h1 | ⟨h1, ver0, l0, h10⟩
   ·exact .inl h1
   ·rcases h.new id h1 with h3 | h3
    ·cases hq0 : ρ id ver0 with
     | some l2 => exact .inr ⟨h3, ver0, l2, hq0⟩
     | none =>
      rcases h.dom id ver0 l0 h10 hq0 with ⟨h4, h5⟩ | h4
      ·exact .inl ⟨h4, by omega⟩
      ·exact .inr h4
    ·obtain ⟨b1, hb1⟩ := Option.isSome_iff_exists.1 h1
     exact .inl ⟨h3, hlow1 id b1 hb1⟩
 ·intro id hs
  rcases hnew id hs with h1 | h1
  ·exact h.new id h1
  ·exact .inr h1
 ·intro b i v hv
  rcases hcells b i v hv with h1 | h1 | ⟨id, ver, l, h1, h2, h3⟩
  ·exact h.cells b i v h1
  ·exact .inr (.inl (Nat.le_trans h.size h1))
  ·cases hq : ρ id ver with
   | some l0 =>
    have : l0 = l := by have := h.sub id ver l0 hq; rw [h2] at this; exact (Option.some.inj this).symm
    subst this
    rcases h.new id h1 with h4 | h4
    ·exact .inr (.inr ⟨id, ver, l0, h4, hq, h3⟩)
    ·obtain ⟨b1, hb1⟩ := Option.isSome_iff_exists.1 h1
     have := hf id ver h4 (hlow1 id b1 hb1)
     rw [hq] at this; cases this
   | none =>
    rcases h.fresh id ver l h2 hq with h4 | ⟨ver0, l0, h4, h5, h6⟩
    ·exact .inr (.inl (by omega))
    ·exact .inr (.inr ⟨id, ver0, l0, h4, h5, h6.trans h3⟩)
theorem Chain.calm {cs : wzb} (hrec : CSOK P G cs) {ops : Array Oper} : ∀ (l : List Oper) (k : Nat) (tr : List Tr) (e : Env) (H : AH) (e2 : Env) (H2 : AH), Chain P cs ops k l tr e H e2 H2 →
  ∀ x ∈ tr, (∀ z ∈ tr, z.i < x.i → z.eff = none) → ∀ id, id < H.n → x.h.get id = H.get id := by
 intro l
 induction l with
 | nil =>
  intro k tr e H e2 H2 h x hx
  cases tr with
  | nil => simp at hx
  | cons x l => exact h.elim
 | cons o r ih =>
  intro k tr e H e2 H2 h x hx hz id hid
  cases tr with
  | nil => exact h.elim
  | cons x0 l =>
   obtain ⟨e', H', h1, h2⟩ := h
   simp only [List.mem_cons] at hx
   rcases hx with rfl | hx
   ·rw [h1.2.2.2.1]
   ·have hk := (h2.apart hrec _ _ _ _ _ _ _).2 x hx
    have he := hz x0 (by simp) (by rw [h1.1]; omega)
    have := ih _ _ _ _ _ _ h2 x hx (fun z hzz => hz z (List.mem_cons_of_mem x0 hzz)) id
    rcases h1.quiet hrec he with ⟨_, rfl⟩ | ⟨blk, hb1, hk1, rfl⟩
    ·exact this hid
    ·rw [this (by rw [wpg]; omega), AH.get_push hk1, if_neg (by omega)]
theorem Chain.between {cs : wzb} (hrec : CSOK P G cs) {ops : Array Oper} : ∀ (l : List Oper) (k : Nat) (tr : List Tr) (e : Env) (H : AH) (e2 : Env) (H2 : AH), Chain P cs ops k l tr e H e2 H2 →
  ∀ y ∈ tr, ∀ b, y.nb = some b → ∀ x ∈ tr, y.i < x.i → (∀ z ∈ tr, y.i < z.i → z.i < x.i → z.eff = none) → x.h.get y.id = some b := by
 intro l
 induction l with
 | nil =>
  intro k tr e H e2 H2 h y hy
  cases tr with
  | nil => simp at hy
  | cons x l => exact h.elim
 | cons o r ih =>
  intro k tr e H e2 H2 h y hy b hb x hx hlt hz
  cases tr with
  | nil => exact h.elim
  | cons x0 l =>
   obtain ⟨e', H', h1, h2⟩ := h
   have hge := (h2.apart hrec _ _ _ _ _ _ _).2
   simp only [List.mem_cons] at hx hy
   rcases hy with rfl | hy
   ·rcases hx with rfl | hx
    ·omega
    ·have hyi : y.i = k := h1.1
     have hyid : y.id = H.n := h1.2.2.2.2.1
     have he : y.eff = none := by
      cases hq : y.eff with
      | none => rfl
      | some G => rw [(h1.eff_some hrec hq).2.1] at hb; cases hb
     rcases h1.quiet hrec he with ⟨h3, _⟩ | ⟨blk, hb1, hk1, rfl⟩
     ·rw [h3] at hb; cases hb
     ·rw [h2.calm hrec _ _ _ _ _ _ _ x hx (fun z hzz hzx => hz z (List.mem_cons_of_mem y hzz) (by have := hge z hzz; omega) hzx) y.id (by rw [wpg]; omega), AH.get_push hk1, if_pos hyid, ← hb1, hb]
   ·rcases hx with rfl | hx
    ·have := hge y hy
     have := h1.1
     omega
    ·exact ih _ _ _ _ _ _ h2 y hy b hb x hx hlt fun z hzz => hz z (List.mem_cons_of_mem x0 hzz)
structure Given (P : Program) (cs : wzb) (ops : Array Oper) (e : Env) (H : AH) (e2 : Env) (H2 : AH) (tr : List Tr) : Prop where
 hrec : CSOK P e.g.1 cs
 chain : Chain P cs ops 0 ops.toList tr e H e2 H2
 edges : wyl ops = true
 names : wtx ops (Region.before ops) = true
 row : ∀ pre i A j B r, wpb tr = pre ++ (i, A) :: (j, B) :: r → bef ops i j
 same : ∀ x ∈ tr, x.want = true → x.eff = none → ∀ done todo, wpb tr = done ++ todo → (∀ y ∈ done, ¬ bef ops x.i y.1) → (∀ y ∈ todo, ¬ bef ops y.1 x.i) →
  ∀ ins, x.o.ins = some ins → looks (some ins) = true → insA P x.e x.h x.id ins = .simple x.v x.nb → insA P x.e (wob H2.n tr (whe H done)) x.id ins = .simple x.v x.nb ∧ ∀ b, x.nb = some b → (wob H2.n tr (whe H done)).get x.id = some b
section
variable {cs : wzb} {ops : Array Oper} {e e2 : Env} {H H2 : AH} {tr : List Tr}
theorem Given.keys (g : Given P cs ops e H e2 H2 tr) : ∀ x ∈ tr, x.nb ≠ none → wmb x.id = true := fun x hx hn => ((g.chain.mono g.hrec _ _ _ _ _ _ _).2 x hx |>.2.2 hn).2
theorem Given.one (g : Given P cs ops e H e2 H2 tr) {y : Tr} (hy : y ∈ tr) {b : ABlk} (hb : y.nb = some b) : ∀ x ∈ tr, x.nb ≠ none → x.id = y.id → x.nb = some b := fun x hx hn hi => by
 have := g.chain.unique g.hrec _ _ _ _ _ _ _ x hx y hy hn (by rw [hb]; simp) hi
 rw [this]; exact hb
theorem Given.pw (g : Given P cs ops e H e2 H2 tr) : tr.Pairwise Apart := (g.chain.apart g.hrec _ _ _ _ _ _ _).1
theorem Given.made (g : Given P cs ops e H e2 H2 tr) {G : AH} {y : Tr} {b : ABlk} (hy : y ∈ tr) (hb : y.nb = some b) (hge : G.n ≤ y.id) : (wob H2.n tr G).get y.id = some b :=
 wgp _ _ _ _ _ g.keys (g.one hy hb) hy hb hge
theorem Given.wf (g : Given P cs ops e H e2 H2 tr) {y : Tr} (hy : y ∈ tr) {c : CBlk} (hb : y.nb = some (.cells c)) : c.WF := by
 obtain ⟨p, hp, _⟩ := g.chain.oper _ _ _ _ _ _ _ rfl y hy
 obtain ⟨x, e1, H1, e1', H1', hx, hs, _, _⟩ := g.chain.at g.hrec hp
 have : x = y := wwkb g.pw hx hy hs.1
 subst this
 have h := hs.2.2.2.2.2.2.2
 rcases h with ⟨_, _, h1, _⟩ | ⟨_, b, h1, _⟩
 ·rw [hb] at h1; cases h1
 ·obtain ⟨i, _, hc⟩ := wdm g.hrec h1
  rcases hc with ⟨h2, _⟩ | ⟨blk, h2, _, _, _, h3⟩ | ⟨h2, _⟩
  ·rw [hb] at h2; cases h2
  ·rw [hb] at h2; cases h2
   exact insA_wf h3 c rfl
  ·rw [hb] at h2; cases h2
structure Mid (g : Given P cs ops e H e2 H2 tr) (ρ0 : Ren) (B : Nat) (w0 : World) (S : Nat → Bool) (done todo : List (Nat × AH)) (ρ : Ren) (a : Act) (w : World) : Prop where
 closed : ∀ i j, S j = true → bef ops i j → S i = true
 split : wpb tr = done ++ todo
 past : ∀ y ∈ done, S y.1 = true
 rest : ∀ y ∈ todo, S y.1 = false
 low : Low (whe H done)
 rel : Rel ρ B (wob H2.n tr (whe H done)) w
 ext : Ext ρ0 H w0 ρ (wob H2.n tr (whe H done)) w
 born : ∀ id ver l, H.n ≤ id → id < H2.n → ρ id ver = some l → ∃ z ∈ tr, S z.i = true ∧ z.id ≤ id ∧ id < wwk z
 env : ERel ρ (envS S tr e) a
structure Next1 (ops : Array Oper) (S : Nat → Bool) (i : Nat) (o : Oper) : Prop where
 op : ops[i]? = some o
 new : S i = false
 ahead : ∀ j, bef ops j i → S j = true
def plus (S : Nat → Bool) (i : Nat) : Nat → Bool := fun j => if j = i then true else S j
theorem Mid.names {g : Given P cs ops e H e2 H2 tr} {ρ0 ρ : Ren} {B : Nat} {w0 w : World} {S : Nat → Bool} {done todo : List (Nat × AH)} {a : Act} (m : Mid g ρ0 B w0 S done todo ρ a w) {i : Nat} {o : Oper} (hn : Next1 ops S i o) :
  ∀ t ∈ wxl o ops, ∀ y ∈ tr, y.o.dst = some t → S y.i = decide (y.i < i) := by
 intro t ht y hy hd
 obtain ⟨p, hp, ho⟩ := g.chain.oper _ _ _ _ _ _ _ rfl y hy
 have hpd : p.dst = some t := by rw [ho] at hd; exact hd
 by_cases hi : y.i = i
 ·rw [hi, hn.new]; simp
 ·have hb := wvkb g.names hn.op hp (fun h => hi h.symm) hpd ht
  rcases Nat.lt_or_ge y.i i with hlt | hge
  ·rw [Nat.min_eq_right (by omega), Nat.max_eq_left (by omega)] at hb
   rw [hn.ahead _ hb]; simp [hlt]
  ·rw [Nat.min_eq_left (by omega), Nat.max_eq_right (by omega)] at hb
   have : S y.i = false := by
    cases hq : S y.i with
    | false => rfl
    | true => have := m.closed _ _ hq hb; rw [hn.new] at this; cases this
   rw [this]; simp; omega
theorem Mid.get {g : Given P cs ops e H e2 H2 tr} {ρ0 ρ : Ren} {B : Nat} {w0 w : World} {S : Nat → Bool} {done todo : List (Nat × AH)} {a : Act} (m : Mid g ρ0 B w0 S done todo ρ a w) {i : Nat} {o : Oper} (hn : Next1 ops S i o) :
  ∀ t ∈ wxl o ops, (envS S tr e).get t = (envS (fun j => decide (j < i)) tr e).get t := fun t ht =>
 wiy tr e e (by have := m.env.ok; rwa [wrt] at this) rfl rfl fun y hy hd => m.names hn t ht y hy hd
theorem Mid.env' {g : Given P cs ops e H e2 H2 tr} {ρ0 ρ ρ' : Ren} {B : Nat} {w0 w : World} {S : Nat → Bool} {done todo : List (Nat × AH)} {a : Act} (m : Mid g ρ0 B w0 S done todo ρ a w) {i : Nat} {o : Oper} (hn : Next1 ops S i o)
  {x : Tr} (hx : x ∈ tr) (hi : x.i = i) (ho : x.o = wti P ops o) (hs : Sub ρ ρ') {v' : Value} (hv : VR ρ' x.v v') : ERel ρ' (envS (plus S i) tr e) (a.put o.dst v') := by
 have h1 := (m.env.mono hs).put hv o.dst
 have hd : x.o.dst = o.dst := by rw [ho]; rfl
 refine h1.congr (by rw [Env.put_n, wrt, wrt]) (by rw [Env.put_g, wcr, wcr]) fun t => ?_
 rw [← hd]
 refine envS_add tr e (by have := m.env.ok; rwa [wrt] at this) hx g.pw (by rw [hi]; exact hn.new) (by simp [plus, hi]) (fun y hy hne => by simp [plus, ← hi, hne]) ?_ t
 intro y hy d hxd hyd hlt
 rw [hd] at hxd
 rw [m.names hn d (by simp [wxl, hxd]) y hy hyd]
 simp; omega
theorem Mid.closed' {g : Given P cs ops e H e2 H2 tr} {ρ0 ρ : Ren} {B : Nat} {w0 w : World} {S : Nat → Bool} {done todo : List (Nat × AH)} {a : Act} (m : Mid g ρ0 B w0 S done todo ρ a w) {i : Nat} {o : Oper} (hn : Next1 ops S i o) :
  ∀ k j, plus S i j = true → bef ops k j → plus S i k = true := by
 intro k j hj hb
 unfold plus at hj ⊢
 split
 ·rfl
 ·split at hj
  ·rename_i h; subst h; exact hn.ahead _ hb
  ·exact m.closed _ _ hj hb
theorem wyn {S : Nat → Bool} {i j : Nat} (h : S j = true) : plus S i j = true := by
 unfold plus
 split
 ·rfl
 ·exact h
theorem Mid.still {g : Given P cs ops e H e2 H2 tr} {ρ0 ρ : Ren} {B : Nat} {w0 w : World} {S : Nat → Bool} {done todo : List (Nat × AH)} {a : Act} (m : Mid g ρ0 B w0 S done todo ρ a w) {i : Nat} {o : Oper} (hn : Next1 ops S i o)
  {x : Tr} (hx : x ∈ tr) (hi : x.i = i) (ho : x.o = wti P ops o) (he : x.eff = none) {v' : Value} (hv : VR ρ x.v v') : Mid g ρ0 B w0 (plus S i) done todo ρ (a.put o.dst v') w := by
 refine ⟨m.closed' hn, m.split, fun y hy => wyn (m.past y hy), fun y hy => ?_, m.low, m.rel, m.ext, fun id ver l h1 h2 h3 => ?_, m.env' hn hx hi ho (.refl ρ) hv⟩
 ·unfold plus
  split
  ·rename_i h
   exfalso
   have : y ∈ wpb tr := by rw [m.split]; simp [hy]
   obtain ⟨z, hz, h1, h2⟩ := (wtd _ _).1 this
   have := wwkb g.pw hz hx (by rw [h1, h, hi])
   rw [this, he] at h2; cases h2
  ·exact m.rest y hy
 ·obtain ⟨z, hz, h4, h5⟩ := m.born id ver l h1 h2 h3
  exact ⟨z, hz, wyn h4, h5⟩
theorem Mid.block {g : Given P cs ops e H e2 H2 tr} {ρ0 ρ : Ren} {B : Nat} {w0 w w' : World} {S : Nat → Bool} {done todo : List (Nat × AH)} {a : Act} (hfree : Free ρ0 H.n H2.n) (m : Mid g ρ0 B w0 S done todo ρ a w) {i : Nat} {o : Oper} (hn : Next1 ops S i o)
  {x : Tr} (hx : x ∈ tr) (hi : x.i = i) (ho : x.o = wti P ops o) (he : x.eff = none) {b : ABlk} (hnb : x.nb = some b) {obj : Obj} {l : Loc} (hp : w'.heap = w.heap.push obj) (hsame : w'.os = w.os ∧ w'.output = w.output) (hl : l.block = w.heap.size) {v' : Value}
  (hb : ∀ ρ', Sub ρ ρ' → ρ' x.id 0 = some l → VR ρ' x.v v' ∧ BRel ρ' w' b 0 l) (hX : (wob H2.n tr (whe H done)).get x.id = some b) : Mid g ρ0 B w0 (plus S i) done todo (ρ.add x.id 0 l) (a.put o.dst v') w' := by
 obtain ⟨hid1, _, hid2⟩ := (g.chain.mono g.hrec _ _ _ _ _ _ _).2 x hx
 have hid2 := (hid2 (by rw [hnb]; simp)).1
 have hend : wwk x = x.id + 1 := by unfold wwk; rw [he, hnb]
 have hnone : ∀ ver, ρ x.id ver = none := by
  intro ver
  cases hq : ρ x.id ver with
  | none => rfl
  | some l0 =>
   exfalso
   obtain ⟨z, hz, h4, h5, h6⟩ := m.born _ _ _ hid1 hid2 hq
   have := wdib g.pw hz hx h5 h6 (Nat.le_refl _) (by omega)
   rw [this, hi, hn.new] at h4; cases h4
 have hsub : Sub ρ (ρ.add x.id 0 l) := Ren.sub_add (hnone 0)
 have hrel : Rel (ρ.add x.id 0 l) B (wob H2.n tr (whe H done)) w' :=
  m.rel.born hp hl hnone (b := b) (fun j => by split <;> simp_all) (fun ρ' a b => (hb ρ' a b).2) (fun c hc => m.rel.wf _ c (by rw [hX, hc])) m.rel.low
 refine ⟨m.closed' hn, m.split, fun y hy => wyn (m.past y hy), fun y hy => ?_, m.low, hrel, ?_, fun id ver l2 h1 h2 h3 => ?_, m.env' hn hx hi ho hsub (hb _ hsub (Ren.add_self _ _ _ _)).1⟩
 ·unfold plus
  split
  ·rename_i h
   exfalso
   have : y ∈ wpb tr := by rw [m.split]; simp [hy]
   obtain ⟨z, hz, h1, h2⟩ := (wtd _ _).1 this
   have := wwkb g.pw hz hx (by rw [h1, h, hi])
   rw [this, he] at h2; cases h2
  ·exact m.rest y hy
 ·have hfn : (wob H2.n tr (whe H done)).n = H2.n := wbw _ _ _
  refine m.ext.trans2 m.rel.low (by rw [hfn]; exact hfree) hsub (by rw [hp]; simp) (fun b' hb' _ => by rw [hp, Array.getElem?_push, if_neg (by omega)]) ?_ ?_ (Nat.le_refl _) (fun _ h => h) (fun _ h => .inl h) hsame (fun b' i' v2 h => .inl h)
  ·intro id ver l2 h1 h2
   rcases Ren.add_cases h1 with ⟨_, _, h3⟩ | h3
   ·rw [h3]; exact .inl (by omega)
   ·rw [h2] at h3; cases h3
  ·intro id ver l2 h1 h2
   rcases Ren.add_cases h1 with ⟨h3, _, _⟩ | h3
   ·rw [hfn, h3]; exact .inl ⟨hid1, hid2⟩
   ·rw [h2] at h3; cases h3
 ·rcases Ren.add_cases h3 with ⟨h4, _, _⟩ | h4
  ·exact ⟨x, hx, by simp [plus, hi], by omega, by omega⟩
  ·obtain ⟨z, hz, h5, h6⟩ := m.born id ver l2 h1 h2 h4
   exact ⟨z, hz, wyn h5, h6⟩
theorem Given.le_end (g : Given P cs ops e H e2 H2 tr) {z : Tr} (hz : z ∈ tr) : z.id ≤ wwk z := by
 obtain ⟨p, hp1, _⟩ := g.chain.oper _ _ _ _ _ _ _ rfl z hz
 obtain ⟨y2, e1, H1, e1', H1', hy2, hs2, _, _⟩ := g.chain.at g.hrec hp1
 have := wwkb g.pw hy2 hz hs2.1
 subst this
 rw [hs2.endOf_eq g.hrec, hs2.2.2.2.2.1]
 exact hs2.mono g.hrec
theorem Mid.past_le {g : Given P cs ops e H e2 H2 tr} {ρ0 ρ : Ren} {B : Nat} {w0 w : World} {S : Nat → Bool} {done rest : List (Nat × AH)} {i : Nat} {G : AH} {a : Act} (m : Mid g ρ0 B w0 S done ((i, G) :: rest) ρ a w)
  {z : Tr} (hz : z ∈ tr) {Gz : AH} (he : z.eff = some Gz) (hlt : z.i < i) : Gz.n ≤ (whe H done).n := by
 have hmem : (z.i, Gz) ∈ wpb tr := (wtd _ _).2 ⟨z, hz, rfl, he⟩
 have hpw := wmq g.pw
 rw [m.split] at hmem hpw
 have hpw2 := List.pairwise_append.1 hpw
 have hdone : (z.i, Gz) ∈ done := by
  simp only [List.mem_append, List.mem_cons] at hmem
  rcases hmem with h | h | h
  ·exact h
  ·simp only [Prod.mk.injEq] at h; omega
  ·have := (List.pairwise_cons.1 hpw2.2.1).1 _ h
   simp only at this
   omega
 rcases List.eq_nil_or_concat done with h | ⟨A, p, h⟩
 ·rw [h] at hdone; simp at hdone
 ·obtain ⟨jl, Gl⟩ := p
  rw [List.concat_eq_append] at h
  have hl : whe H done = Gl := by rw [h]; exact wem _ _ _ _
  have hml : (jl, Gl) ∈ wpb tr := by rw [m.split, h]; simp
  obtain ⟨zl, hzl, h1, h2⟩ := (wtd _ _).1 hml
  have e1 : wwk zl = Gl.n := by unfold wwk; rw [h2]
  have e2 : wwk z = Gz.n := by unfold wwk; rw [he]
  rw [hl]
  rcases wip g.pw hz hzl with h3 | h3 | h3
  ·rw [h3] at e2; omega
  ·have := h3.2
   have := g.le_end hzl
   omega
  ·exfalso
   have h4 := h3.1
   simp only at h1
   have h5 := hpw2.1
   rw [h] at h5 hdone
   have h6 := (List.pairwise_append.1 h5).2.2
   simp only [List.mem_append, List.mem_singleton, Prod.mk.injEq] at hdone
   rcases hdone with h7 | h7
   ·have := h6 _ h7 (jl, Gl) (by simp)
    simp only at this
    omega
   ·omega
theorem Mid.effect {g : Given P cs ops e H e2 H2 tr} {ρ0 ρ : Ren} {B : Nat} {w0 w : World} {S : Nat → Bool} {done todo : List (Nat × AH)} {a : Act} (hfree : Free ρ0 H.n H2.n) (m : Mid g ρ0 B w0 S done todo ρ a w) {i : Nat} {o : Oper} (hn : Next1 ops S i o)
  {x : Tr} (hx : x ∈ tr) (hi : x.i = i) (ho : x.o = wti P ops o) {G : AH} (he : x.eff = some G) (hG : G.n ≤ H2.n) (hidh : x.id = x.h.n) (hmono : x.h.n ≤ G.n) :
  Rel ρ B x.h w ∧ Free ρ x.h.n G.n ∧ ∀ ρ' v' w', VR ρ' x.v v' → Post ρ B x.h w ρ' G w' → ∃ done' todo', Mid g ρ0 B w0 (plus S i) done' todo' ρ' (a.put o.dst v') w' := by
 have hmem : (i, G) ∈ wpb tr := (wtd _ _).2 ⟨x, hx, hi, he⟩
 have hend : wwk x = G.n := by unfold wwk; rw [he]
 obtain ⟨rest, htodo⟩ : ∃ rest, todo = (i, G) :: rest := by
  have h1 : (i, G) ∈ todo := by
   rw [m.split, List.mem_append] at hmem
   rcases hmem with h | h
   ·have := m.past _ h; rw [hn.new] at this; cases this
   ·exact h
  cases todo with
  | nil => simp at h1
  | cons p r =>
   by_cases hpi : p = (i, G)
   ·exact ⟨r, by rw [hpi]⟩
   ·exfalso
    have h2 : (i, G) ∈ r := by
     simp only [List.mem_cons] at h1
     rcases h1 with h | h
     ·exact absurd h.symm hpi
     ·exact h
    obtain ⟨A, C, hAC⟩ := List.append_of_mem h2
    have h3 : ∃ A' j0 G0, p :: A = A' ++ [(j0, G0)] := by
     refine ⟨(p :: A).dropLast, ((p :: A).getLast (by simp)).1, ((p :: A).getLast (by simp)).2, ?_⟩
     exact (List.dropLast_concat_getLast (by simp)).symm
    obtain ⟨A', j0, G0, h3⟩ := h3
    have h4 : wpb tr = (done ++ A') ++ (j0, G0) :: (i, G) :: C := by
     rw [m.split, hAC, show p :: (A ++ (i, G) :: C) = (p :: A) ++ (i, G) :: C from rfl, h3]; simp
    have h5 : bef ops j0 i := g.row _ _ _ _ _ _ h4
    have h6 := hn.ahead _ h5
    have h7 : (j0, G0) ∈ p :: r := by
     have : (j0, G0) ∈ p :: A := by rw [h3]; simp
     simp only [List.mem_cons] at this ⊢
     rcases this with h | h
     ·exact .inl h
     ·exact .inr (by rw [hAC]; simp [h])
    rw [m.rest _ h7] at h6
    cases h6
 subst htodo
 obtain ⟨x2, hx2, hi2, he2, hahead, hlowget, hhigh⟩ := g.chain.ahead g.hrec _ _ _ _ _ _ _ done i G rest m.split m.low
 have hxx : x2 = x := wwkb g.pw hx2 hx (by rw [hi2, hi])
 subst hxx
 have hfn : ∀ G, (wob H2.n tr G).n = H2.n := fun G => wbw _ _ _
 have hXh : ∀ id b, x2.h.get id = some b → (wob H2.n tr (whe H done)).get id = some b := by
  intro id b hb
  by_cases hlt : id < (whe H done).n
  ·rw [wvk _ _ _ g.keys id hlt, ← hlowget id hlt]; exact hb
  ·obtain ⟨y, hy, h1, h2, _⟩ := hhigh id b (by omega) hb
   rw [← h2]
   exact g.made hy h1 (by omega)
 have hhlow : ∀ id b, x2.h.get id = some b → id < x2.h.n := by
  intro id b hb
  by_cases hlt : id < (whe H done).n
  ·omega
  ·obtain ⟨y, hy, h1, h2, h3⟩ := hhigh id b (by omega) hb
   exact h3
 have hrel : Rel ρ B x2.h w := ⟨fun id ver l b h1 h2 => m.rel.blk id ver l b h1 (hXh id b h2), fun id b h => m.rel.wf id b (hXh id _ h), hhlow, m.rel.sep, m.rel.bnd, m.rel.base, ⟨m.rel.fz.cell, fun id ver l i v b h1 h2 h3 => m.rel.fz.sep id ver l i v b h1 h2 (hXh id b h3)⟩⟩
 have hidge : H.n ≤ x2.id := ((g.chain.mono g.hrec _ _ _ _ _ _ _).2 x2 hx).1
 refine ⟨hrel, ?_, ?_⟩
 ·intro id ver h1 h2
  cases hq : ρ id ver with
  | none => rfl
  | some l0 =>
   exfalso
   obtain ⟨z, hz, h4, h5, h6⟩ := m.born id ver l0 (by omega) (by omega) hq
   have := wdib g.pw hz hx h5 h6 (by omega) (by omega)
   rw [this, hi, hn.new] at h4; cases h4
 ·intro ρ' v' w' hv hp
  have hlx : whe H (done ++ [(i, G)]) = G := wem _ _ _ _
  have hinv : ∀ id b, (wob H2.n tr G).get id = some b → G.get id = some b ∨ ((wob H2.n tr (whe H done)).get id = some b ∧ G.n ≤ id ∧ id < H2.n ∧ ∀ c, b = .cells c → c.WF) := by
   intro id b hb
   rcases whp _ _ _ _ _ g.keys hb with h | ⟨y, hy, h1, h2, h3⟩
   ·exact .inl h
   ·refine .inr ⟨?_, h3, ?_, fun c hc => g.wf hy (by rw [h1, hc])⟩
    ·rw [← h2]; exact g.made hy h1 (by omega)
    ·have := ((g.chain.mono g.hrec _ _ _ _ _ _ _).2 y hy).2.2 (by rw [h1]; simp); omega
  have hfill : ∀ id b, (wob H2.n tr (whe H done)).get id = some b → G.n ≤ id → (wob H2.n tr G).get id = some b := by
   intro id b hb hge
   rcases whp _ _ _ _ _ g.keys hb with h | ⟨y, hy, h1, h2, h3⟩
   ·have := m.low id b h; omega
   ·rw [← h2]; exact g.made hy h1 (by omega)
  have hrel' : Rel ρ' B (wob H2.n tr G) w' := by
   refine ⟨?_, ?_, ?_, hp.rel.sep, hp.rel.bnd, hp.rel.base, ⟨hp.rel.fz.cell, ?_⟩⟩
   ·intro id ver l b hl hb
    rcases hinv id b hb with h | ⟨h, hge, hlt, _⟩
    ·exact hp.rel.blk id ver l b hl h
    ·cases hq : ρ id ver with
     | some l0 =>
      have : l0 = l := by have := hp.ext.sub id ver l0 hq; rw [hl] at this; exact (Option.some.inj this).symm
      subst this
      have hbd := (hrel.bnd _ _ _ hq).2
      refine (m.rel.blk id ver l0 b hq h).keep hp.ext.sub (hp.ext.frame _ hbd ?_)
      intro id' ver' l' h1 h2 h3
      have := hrel.sep _ _ _ _ _ _ h2 hq h3
      subst this
      obtain ⟨b1, hb1⟩ := Option.isSome_iff_exists.1 h1
      have := hhlow _ _ hb1
      omega
     | none =>
      exfalso
      rcases hp.ext.dom id ver l hl hq with ⟨_, h2⟩ | ⟨h2, _⟩
      ·omega
      ·obtain ⟨b1, hb1⟩ := Option.isSome_iff_exists.1 h2
       have := hhlow _ _ hb1
       omega
   ·intro id c hc
    rcases hinv id _ hc with h | ⟨_, _, _, h⟩
    ·exact hp.rel.wf id c h
    ·exact h c rfl
   ·intro id b hb
    rw [hfn]
    rcases hinv id b hb with h | ⟨_, _, h, _⟩
    ·have := hp.rel.low id b h; omega
    ·exact h
   ·intro id ver l i' v2 b hl hc hb
    rcases hinv id b hb with h | ⟨h, hge, hlt, _⟩
    ·exact hp.rel.fz.sep id ver l i' v2 b hl hc h
    ·cases hq : ρ id ver with
     | some l0 =>
      have : l0 = l := by have := hp.ext.sub id ver l0 hq; rw [hl] at this; exact (Option.some.inj this).symm
      subst this
      refine m.rel.fz.sep id ver l0 i' v2 b hq ?_ h
      rcases hp.ext.cells _ _ _ hc with h1 | h1 | ⟨id', ver', l', h1, h2, h3⟩
      ·exact h1
      ·have := (hrel.bnd _ _ _ hq).2
       omega
      ·exfalso
       have := hrel.sep _ _ _ _ _ _ h2 hq h3
       subst this
       obtain ⟨b1, hb1⟩ := Option.isSome_iff_exists.1 h1
       have := hhlow _ _ hb1
       omega
     | none =>
      exfalso
      rcases hp.ext.dom id ver l hl hq with ⟨_, h2⟩ | ⟨h2, _⟩
      ·omega
      ·obtain ⟨b1, hb1⟩ := Option.isSome_iff_exists.1 h2
       have := hhlow _ _ hb1
       omega
  have hsome : ∀ id, (x2.h.get id).isSome = true → ((wob H2.n tr (whe H done)).get id).isSome = true := by
   intro id h
   obtain ⟨b, hb⟩ := Option.isSome_iff_exists.1 h
   rw [hXh id b hb]; rfl
  refine ⟨done ++ [(i, G)], rest, m.closed' hn, by rw [m.split]; simp, ?_, ?_, ?_, by rw [hlx]; exact hrel', ?_, ?_, m.env' hn hx hi ho hp.ext.sub hv⟩
  ·intro y hy
   simp only [List.mem_append, List.mem_singleton] at hy
   rcases hy with hy | rfl
   ·exact wyn (m.past y hy)
   ·simp [plus]
  ·intro y hy
   have h1 := wmq g.pw
   rw [m.split, List.pairwise_append] at h1
   have h2 := (List.pairwise_cons.1 h1.2.1).1 y hy
   simp only at h2
   unfold plus
   rw [if_neg (by omega)]
   exact m.rest y (by simp [hy])
  ·rw [hlx]; exact hp.rel.low
  ·rw [hlx]
   refine m.ext.trans2 (fun id b hb => by have := m.rel.low id b hb; rw [hfn] at this; rw [hfn]; exact this) (by rw [hfn]; exact hfree) hp.ext.sub hp.ext.size ?_ ?_ ?_ (by rw [hfn, hfn]; exact Nat.le_refl _) ?_ ?_ hp.ext.same ?_
   ·intro b hb himg
    exact hp.ext.frame b hb fun id ver l h1 h2 => himg id ver l (hsome id h1) h2
   ·intro id ver l h1 h2
    rcases hp.ext.fresh id ver l h1 h2 with h3 | ⟨ver0, l0, h3, h4⟩
    ·exact .inl h3
    ·exact .inr ⟨ver0, l0, hsome id h3, h4⟩
   ·intro id ver l h1 h2
    rw [hfn]
    rcases hp.ext.dom id ver l h1 h2 with ⟨h3, h4⟩ | ⟨h3, h4⟩
    ·exact .inl ⟨by omega, by omega⟩
    ·exact .inr ⟨hsome id h3, h4⟩
   ·intro id h1
    obtain ⟨b, hb⟩ := Option.isSome_iff_exists.1 h1
    by_cases hlt : id < G.n
    ·by_cases hx3 : (x2.h.get id).isSome = true
     ·have := hp.ext.keep id hx3
      rw [wvk _ _ _ g.keys id hlt]; exact this
     ·exfalso
      rcases whp _ _ _ _ _ g.keys hb with h | ⟨y, hy, h1, h2, h3⟩
      ·have h4 := m.low id b h
       rw [hlowget id h4, h] at hx3
       exact hx3 rfl
      ·have hyn : y.nb ≠ none := by rw [h1]; simp
       have hye : y.eff = none := by
        cases hq : y.eff with
        | none => rfl
        | some Gy =>
         exfalso
         obtain ⟨p, hp1, _⟩ := g.chain.oper _ _ _ _ _ _ _ rfl y hy
         obtain ⟨y2, e1, H1, e1', H1', hy2, hs2, _, _⟩ := g.chain.at g.hrec hp1
         have := wwkb g.pw hy2 hy hs2.1
         subst this
         exact hyn (hs2.eff_some g.hrec hq).2.1
       have hyend : wwk y = y.id + 1 := by unfold wwk; rw [hye, h1]
       rcases wip g.pw hy hx with h5 | h5 | h5
       ·rw [h5, he] at hye; cases hye
       ·have := g.chain.between g.hrec _ _ _ _ _ _ _ y hy b h1 x2 hx h5.1 ?_
        ·rw [h2] at this; rw [this] at hx3; exact hx3 rfl
        ·intro z hz hz1 hz2
         cases hq : z.eff with
         | none => rfl
         | some Gz =>
          exfalso
          have h6 := m.past_le hz hq (by omega)
          have h7 : wwk z = Gz.n := by unfold wwk; rw [hq]
          rcases wip g.pw hy hz with h8 | h8 | h8
          ·rw [h8] at hz1; omega
          ·have := h8.2
           have := g.le_end hz
           omega
          ·have := h8.1; omega
       ·have := h5.2; omega
    ·rw [hfill id b hb (by omega)]; rfl
   ·intro id h1
    obtain ⟨b, hb⟩ := Option.isSome_iff_exists.1 h1
    rcases hinv id b hb with h | ⟨h, _⟩
    ·rcases hp.ext.new id (by rw [h]; rfl) with h2 | h2
     ·exact .inl (hsome id h2)
     ·exact .inr (by omega)
    ·exact .inl (by rw [h]; rfl)
   ·intro b i' v2 hv2
    rcases hp.ext.cells b i' v2 hv2 with h1 | h1 | ⟨id, ver, l, h1, h2, h3⟩
    ·exact .inl h1
    ·exact .inr (.inl h1)
    ·exact .inr (.inr ⟨id, ver, l, hsome id h1, h2, h3⟩)
  ·intro id ver l h1 h2 h3
   cases hq : ρ id ver with
   | some l0 =>
    obtain ⟨z, hz, h5, h6⟩ := m.born id ver l0 h1 h2 hq
    exact ⟨z, hz, wyn h5, h6⟩
   | none =>
    rcases hp.ext.dom id ver l h3 hq with ⟨h4, h5⟩ | ⟨_, ver0, l0, h4⟩
    ·exact ⟨x2, hx, by simp [plus, hi], by omega, by omega⟩
    ·obtain ⟨z, hz, h5, h6⟩ := m.born id ver0 l0 h1 h2 h4
     exact ⟨z, hz, wyn h5, h6⟩
end
end
end Go.Den
namespace Go.Den
noncomputable section
variable {P : Program} {G : Nat → Option (List Value)}
def tiTr (x : Tr) : Option Ti := match x.want with
 | true => some (match x.eff with
  | some G => ⟨x.i, [], some (x.wr, x.id, G.n)⟩
  | none => ⟨x.i, tiRd x.nb x.id (bif looks x.o.ins then whab x.e x.o.ins else []), none⟩)
 | false => none
theorem wykb {R : Type} {cs : wzb} {ops : Array Oper} {K : KR R} {r : R} : ∀ (l : List Oper) (k : Nat) (acc : List Ti) (e : Env) (H : AH), opsD P cs ops K (wyg P ops l) k acc e H = some r →
  ∃ tr e2 H2, Chain P cs ops k l tr e H e2 H2 ∧ wbt ops ((tr.filterMap tiTr).reverse ++ acc) K e2 H2 = some r := by
 intro l
 induction l with
 | nil => intro k acc e H h; exact ⟨[], e, H, ⟨rfl, rfl⟩, h⟩
 | cons o l ih =>
  intro k acc e H h
  have h1 : opsKD (didG (gsel (wti P ops o).guard e) (wgq P cs e H (wti P ops o).ins) H) (wti P ops o) k acc e H (opsD P cs ops K (wyg P ops l)) = some r := h
  unfold opsKD at h1
  split at h1
  ·rename_i v nb eff H' wr hd
   obtain ⟨tr, e2, H2, h2, h3⟩ := ih _ _ _ _ h1
   rcases wnab hd with ⟨hg, hs⟩ | ⟨hg, rfl, rfl, rfl, rfl, rfl⟩
   ·refine ⟨{ i := k, o := wti P ops o, e := e, h := H, want := true, v := v, nb := nb, id := H.n, eff := if eff then some H' else none, wr := wr } :: tr, e2, H2, ⟨_, _, ⟨rfl, rfl, rfl, rfl, rfl, hg, rfl, .inr ⟨rfl, eff, hs, rfl⟩⟩, h2⟩, ?_⟩
    rw [hg] at h3
    rw [← h3]
    congr 1
    cases eff <;> simp [tiTr, tiOf]
   ·refine ⟨{ i := k, o := wti P ops o, e := e, h := H', want := false, v := undef, nb := none, id := H'.n, eff := none, wr := [] } :: tr, e2, H2, ⟨_, _, ⟨rfl, rfl, rfl, rfl, rfl, hg, rfl, .inl ⟨rfl, rfl, rfl, rfl, rfl⟩⟩, h2⟩, ?_⟩
    rw [hg] at h3
    rw [← h3]
    congr 1
  ·cases h1
theorem bef_lt {ops : Array Oper} (he : wyl ops = true) : ∀ (j i : Nat), j < ops.size → bef ops i j → i < j := by
 intro j
 induction j using Nat.strongRecOn with
 | _ j ih =>
  intro i hj h
  obtain ⟨e, _, _, hlt, h1 | h1⟩ := wbib he (Array.getElem?_eq_getElem hj) h
  ·omega
  ·have := ih e.on hlt i (by omega) h1; omega
structure Run (P : Program) (cs : wzb) (ops : Array Oper) (tr : List Tr) (e : Env) (H : AH) (e2 : Env) (H2 : AH) (Hs : Nat → AH) : Prop where
 chain : Chain P cs ops 0 ops.toList tr e H e2 H2
 len : tr.length = ops.size
 zero : Hs 0 = H
 last : Hs ops.size = H2
 at_ : ∀ (m : Nat), m < ops.size → ∃ x, tr[m]? = some x ∧ x.i = m ∧ x.h = Hs m ∧ x.id = (Hs m).n ∧ (∀ G, x.eff = some G → G = Hs (m + 1) ∧ x.want = true ∧ x.nb = none ∧ Fr (Hs m) (Hs (m + 1)) x.wr) ∧
  (x.eff = none → (x.nb = none ∧ Hs (m + 1) = Hs m) ∨ ∃ b, x.nb = some b ∧ wmb (Hs m).n = true ∧ Hs (m + 1) = (Hs m).push b)
 low : ∀ m, m ≤ ops.size → Low (Hs m)
 mono : ∀ m m', m ≤ m' → m' ≤ ops.size → (Hs m).n ≤ (Hs m').n
theorem Chain.run {cs : wzb} (hrec : CSOK P G cs) {ops : Array Oper} {tr : List Tr} {e e2 : Env} {H H2 : AH} (hl : Low H) (h : Chain P cs ops 0 ops.toList tr e H e2 H2) : ∃ Hs, Run P cs ops tr e H e2 H2 Hs := by
 obtain ⟨h3, E, Hs, h4, h5, h6, h7, h8⟩ := h.moments
 simp only [Nat.zero_add] at h6 h7 h8
 have hstep : ∀ m, m < ops.size → ∃ x o, tr[m]? = some x ∧ Step1 P cs ops m o x (E m) (Hs m) (E (m + 1)) (Hs (m + 1)) := by
  intro m hm
  obtain ⟨x, h9, h10⟩ := h8 m ops[m] (by simp [hm])
  exact ⟨x, _, h9, h10⟩
 have hone : ∀ m, m < ops.size → (Hs m).n ≤ (Hs (m + 1)).n := fun m hm => by obtain ⟨x, o, _, h9⟩ := hstep m hm; exact h9.mono hrec
 have hmono : ∀ m m', m ≤ m' → m' ≤ ops.size → (Hs m).n ≤ (Hs m').n := by
  intro m m' hle
  induction m' with
  | zero => intro _; rw [Nat.le_zero.1 hle]; exact Nat.le_refl _
  | succ m' ih =>
   intro hs
   by_cases hq : m = m' + 1
   ·rw [hq]; exact Nat.le_refl _
   ·exact Nat.le_trans (ih (by omega) (by omega)) (hone m' (by omega))
 have hlow : ∀ m, m ≤ ops.size → Low (Hs m) := by
  intro m
  induction m with
  | zero => intro _; rw [h5]; exact hl
  | succ m ih =>
   intro hm
   obtain ⟨x, o, _, h9⟩ := hstep m hm
   have hl := ih (by omega)
   cases hq : x.eff with
   | some G2 => exact ((h9.eff_some hrec hq).2.2.2.choose_spec.2.2 hl).1
   | none =>
    rcases h9.quiet hrec hq with ⟨_, h10⟩ | ⟨b, _, h11, h10⟩
    ·rw [h10]; exact hl
    ·rw [h10]; exact hl.push h11 b
 refine ⟨Hs, h, by simpa using h3, h5, by simpa using h7, fun m hm => ?_, hlow, hmono⟩
 obtain ⟨x, o, h9, h10⟩ := hstep m hm
 refine ⟨x, h9, h10.1, h10.2.2.2.1, h10.2.2.2.2.1, fun G2 hG => ?_, fun hq => h10.quiet hrec hq⟩
 obtain ⟨h11, h12, h13, i, _, _, h14⟩ := h10.eff_some hrec hG
 exact ⟨h11, h13, h12, h14 (hlow m (by omega))⟩
section
variable {cs : wzb} {ops : Array Oper} {e e2 : Env} {H H2 : AH} {tr : List Tr} {Hs : Nat → AH}
theorem Run.mem (g : Run P cs ops tr e H e2 H2 Hs) {x : Tr} (hx : x ∈ tr) : x.i < ops.size ∧ tr[x.i]? = some x := by
 obtain ⟨m, hm, rfl⟩ := List.getElem_of_mem hx
 have hm' : m < ops.size := by rw [← g.len]; exact hm
 obtain ⟨y, h1, h2, _⟩ := g.at_ m hm'
 rw [List.getElem?_eq_getElem hm] at h1
 cases h1
 rw [h2]
 exact ⟨hm', List.getElem?_eq_getElem hm⟩
theorem Run.stay (g : Run P cs ops tr e H e2 H2 Hs) {id m : Nat} : ∀ m', m ≤ m' → m' ≤ ops.size → id < (Hs m).n → (∀ x ∈ tr, m ≤ x.i → x.i < m' → x.eff ≠ none → id ∉ x.wr) → (Hs m').get id = (Hs m).get id := by
 intro m'
 induction m' with
 | zero => intro h _ _ _; rw [Nat.le_zero.1 h]
 | succ m' ih =>
  intro h hs hid hc
  by_cases hq : m = m' + 1
  ·rw [hq]
  ·rw [← ih (by omega) (by omega) hid fun x hx h1 h2 => hc x hx h1 (by omega)]
   have hid' : id < (Hs m').n := Nat.lt_of_lt_of_le hid (g.mono m m' (by omega) (by omega))
   obtain ⟨x, h1, h2, _, _, h3, h4⟩ := g.at_ m' (by omega)
   have hx : x ∈ tr := List.mem_of_getElem? h1
   cases he : x.eff with
   | some G2 =>
    obtain ⟨_, _, _, hf⟩ := h3 G2 he
    exact hf.2 id (hc x hx (by omega) (by omega) (by rw [he]; simp)) hid'
   | none =>
    rcases h4 he with ⟨_, h5⟩ | ⟨b, _, h6, h5⟩
    ·rw [h5]
    ·rw [h5, AH.get_push h6, if_neg (by omega)]
theorem Run.maker (g : Run P cs ops tr e H e2 H2 Hs) {id m : Nat} : ∀ m', m ≤ m' → m' ≤ ops.size → (Hs m).n ≤ id → id < (Hs m').n → ∃ x ∈ tr, m ≤ x.i ∧ x.i < m' ∧ x.id ≤ id ∧ id < (Hs (x.i + 1)).n ∧ x.id = (Hs x.i).n := by
 intro m'
 induction m' with
 | zero => intro h _ h1 h2; rw [Nat.le_zero.1 h] at h1; omega
 | succ m' ih =>
  intro h hs h1 h2
  by_cases hq : m = m' + 1
  ·rw [hq] at h1; omega
  ·by_cases hlt : id < (Hs m').n
   ·obtain ⟨x, hx, a, b, c⟩ := ih (by omega) (by omega) h1 hlt
    exact ⟨x, hx, a, by omega, c⟩
   ·obtain ⟨x, h3, h4, _, h5, _⟩ := g.at_ m' (by omega)
    exact ⟨x, List.mem_of_getElem? h3, by omega, by omega, by omega, by rw [h4]; exact h2, by rw [h5, h4]⟩
theorem Run.reach (g : Run P cs ops tr e H e2 H2 Hs) (hpw : tr.Pairwise Apart) {done todo : List (Nat × AH)} (h : wpb tr = done ++ todo) :
  ∃ q, q ≤ ops.size ∧ whe H done = Hs q ∧ (∀ y ∈ done, y.1 < q) ∧ (∀ y ∈ todo, q ≤ y.1) := by
 have hp := wmq hpw
 rw [h] at hp
 have hp2 := List.pairwise_append.1 hp
 rcases List.eq_nil_or_concat done with hd | ⟨A, p, hd⟩
 ·subst hd
  exact ⟨0, Nat.zero_le _, g.zero.symm, fun y hy => by simp at hy, fun _ _ => Nat.zero_le _⟩
 ·obtain ⟨j, Gj⟩ := p
  rw [List.concat_eq_append] at hd
  subst hd
  have hm : (j, Gj) ∈ wpb tr := by rw [h]; simp
  obtain ⟨x, hx, h1, h2⟩ := (wtd _ _).1 hm
  simp only at h1 h2
  obtain ⟨h3, h4⟩ := g.mem hx
  obtain ⟨x', h5, _, _, _, h6, _⟩ := g.at_ x.i h3
  rw [h4] at h5
  cases h5
  refine ⟨j + 1, by omega, ?_, ?_, ?_⟩
  ·rw [wem, (h6 Gj h2).1, h1]
  ·intro y hy
   simp only [List.mem_append, List.mem_singleton] at hy
   rcases hy with hy | rfl
   ·have := (List.pairwise_append.1 hp2.1).2.2 y hy (j, Gj) (by simp)
    simp only at this
    omega
   ·simp
  ·intro y hy
   have := hp2.2.2 (j, Gj) (by simp) y hy
   simp only at this
   omega
theorem wjy {x : Tr} {G2 : AH} (hw : x.want = true) (he : x.eff = some G2) : tiTr x = some ⟨x.i, [], some (x.wr, x.id, G2.n)⟩ := by unfold tiTr; rw [hw, he]
theorem wxqb {x : Tr} (hw : x.want = true) (he : x.eff = none) : tiTr x = some ⟨x.i, tiRd x.nb x.id (bif looks x.o.ins then whab x.e x.o.ins else []), none⟩ := by unfold tiTr; rw [hw, he]
theorem wzkb {wr : List Nat} {a b id : Nat} (h : wsv (wr, a, b) id = true) : id ∉ wr ∧ ¬ (a ≤ id ∧ id < b) := by
 unfold wsv at h
 simp only [Bool.and_eq_true, Bool.not_eq_true', Bool.and_eq_false_iff] at h
 refine ⟨by simpa using h.1, fun ⟨h1, h2⟩ => ?_⟩
 rcases h.2 with h3 | h3
 ·rw [Nat.ble_eq_true_of_le h1] at h3; cases h3
 ·rw [show Nat.blt id b = true from Nat.ble_eq_true_of_le h2] at h3; cases h3
theorem sep_spec {acc : List Ti} (hsep : wji (Region.before ops) acc = true) {x y : Tr} {G2 : AH} (hx : ∀ t, tiTr x = some t → t ∈ acc) (hy : ∀ t, tiTr y = some t → t ∈ acc) (hxw : x.want = true) (hxe : x.eff = none) (hyw : y.want = true) (hye : y.eff = some G2)
  (h1 : ¬ bef ops x.i y.i) (h2 : ¬ bef ops y.i x.i) : ∀ id ∈ tiRd x.nb x.id (bif looks x.o.ins then whab x.e x.o.ins else []), id ∉ y.wr ∧ ¬ (y.id ≤ id ∧ id < G2.n) := by
 unfold wji at hsep
 rw [List.all_eq_true] at hsep
 have h3 := hsep _ (hx _ (wxqb hxw hxe))
 rw [List.all_eq_true] at h3
 have h4 := h3 _ (hy _ (wjy hyw hye))
 simp only [sep2, Bool.or_eq_true] at h4
 intro id hid
 rcases h4 with h4 | h4 | h4
 ·exact absurd h4 h1
 ·exact absurd h4 h2
 ·rw [List.all_eq_true] at h4
  exact wzkb (h4 id hid)
theorem walb {before : Array Nat} : ∀ (l : List Ti), wqf before l = true → l.Pairwise fun x y => x.eff ≠ none → y.eff ≠ none → (before.getD y.i 0).testBit x.i = true := by
 intro l
 induction l with
 | nil => intro _; exact .nil
 | cons x l ih =>
  intro h
  simp only [wqf, Bool.and_eq_true] at h
  refine .cons (fun y hy hx hye => ?_) (ih h.2)
  have h1 := h.1
  cases hq : x.eff with
  | none => exact absurd hq hx
  | some p =>
   rw [hq] at h1
   simp only [List.all_eq_true] at h1
   have h2 := h1 y hy
   cases hq2 : y.eff with
   | none => exact absurd hq2 hye
   | some p2 => rw [hq2] at h2; exact h2
theorem Run.want (g : Run P cs ops tr e H e2 H2 Hs) {x : Tr} (hx : x ∈ tr) {G2 : AH} (he : x.eff = some G2) : x.want = true ∧ G2 = Hs (x.i + 1) := by
 obtain ⟨h3, h4⟩ := g.mem hx
 obtain ⟨x', h5, _, _, _, h6, _⟩ := g.at_ x.i h3
 rw [h4] at h5
 cases h5
 exact ⟨(h6 G2 he).2.1, (h6 G2 he).1⟩
theorem Run.row (g : Run P cs ops tr e H e2 H2 Hs) (hpw : tr.Pairwise Apart) (hc : wqf (Region.before ops) (tr.filterMap tiTr) = true) : ∀ pre i A j B r, wpb tr = pre ++ (i, A) :: (j, B) :: r → bef ops i j := by
 have h1 := walb _ hc
 rw [List.pairwise_filterMap] at h1
 have h2 : ∀ l : List Tr, (∀ x ∈ l, x ∈ tr) → l.Pairwise (fun a a' => ∀ b, tiTr a = some b → ∀ b', tiTr a' = some b' → b.eff ≠ none → b'.eff ≠ none → ((Region.before ops).getD b'.i 0).testBit b.i = true) → (wpb l).Pairwise fun p q => bef ops p.1 q.1 := by
  intro l
  induction l with
  | nil => intro _ _; exact .nil
  | cons x l ih =>
   intro hm h
   have h3 := List.pairwise_cons.1 h
   have ih := ih (fun y hy => hm y (by simp [hy])) h3.2
   simp only [wpb]
   split
   ·rename_i G2 hq
    refine .cons (fun z hz => ?_) ih
    obtain ⟨y, hy, h4, h5⟩ := (wtd _ _).1 hz
    have w1 := (g.want (hm x (by simp)) hq).1
    have w2 := (g.want (hm y (by simp [hy])) h5).1
    have := h3.1 y hy _ (wjy w1 hq) _ (wjy w2 h5) (by simp) (by simp)
    unfold bef
    simp only at this ⊢
    rw [← h4]
    exact this
   ·exact ih
 have h3 := h2 tr (fun x hx => hx) h1
 intro pre i A j B r he
 rw [he] at h3
 exact (List.pairwise_cons.1 (List.pairwise_append.1 h3).2.1).1 (j, B) (by simp)
theorem Run.same (g : Run P cs ops tr e H e2 H2 Hs) (hpw : tr.Pairwise Apart) (hkeys : ∀ x ∈ tr, x.nb ≠ none → wmb x.id = true) (hone : ∀ y ∈ tr, ∀ b, y.nb = some b → ∀ x ∈ tr, x.nb ≠ none → x.id = y.id → x.nb = some b)
  (hedges : wyl ops = true) {acc : List Ti} (hacc : ∀ x ∈ tr, ∀ t, tiTr x = some t → t ∈ acc) (hsep : wji (Region.before ops) acc = true) :
  ∀ x ∈ tr, x.want = true → x.eff = none → ∀ done todo, wpb tr = done ++ todo → (∀ y ∈ done, ¬ bef ops x.i y.1) → (∀ y ∈ todo, ¬ bef ops y.1 x.i) →
  ∀ ins, x.o.ins = some ins → looks (some ins) = true → insA P x.e x.h x.id ins = .simple x.v x.nb → insA P x.e (wob H2.n tr (whe H done)) x.id ins = .simple x.v x.nb ∧ ∀ b, x.nb = some b → (wob H2.n tr (whe H done)).get x.id = some b := by
 intro x hx hw he done todo hsplit hdone htodo ins hins hlooks hval
 obtain ⟨q, hq, hX, hd1, ht1⟩ := g.reach hpw hsplit
 obtain ⟨hxi, hxt⟩ := g.mem hx
 obtain ⟨x', h5, _, hxh, hxid, _, hxq⟩ := g.at_ x.i hxi
 rw [hxt] at h5
 cases h5
 have hclear : ∀ y ∈ tr, ∀ G2, y.eff = some G2 → (q ≤ y.i ∧ y.i < x.i ∨ x.i ≤ y.i ∧ y.i < q) → ∀ id ∈ tiRd x.nb x.id (bif looks x.o.ins then whab x.e x.o.ins else []), id ∉ y.wr ∧ ¬ (y.id ≤ id ∧ id < G2.n) := by
  intro y hy G2 hye hpos
  have hmem : (y.i, G2) ∈ wpb tr := (wtd _ _).2 ⟨y, hy, rfl, hye⟩
  obtain ⟨hyi, _⟩ := g.mem hy
  have hw2 := (g.want hy hye).1
  rw [hsplit, List.mem_append] at hmem
  refine sep_spec hsep (hacc x hx) (hacc y hy) hw he hw2 hye ?_ ?_
  ·intro hb
   rcases hpos with hp | hp
   ·have := bef_lt hedges _ _ hyi hb; omega
   ·rcases hmem with h | h
    ·exact hdone _ h hb
    ·have := ht1 _ h; simp only at this; omega
  ·intro hb
   rcases hpos with hp | hp
   ·rcases hmem with h | h
    ·have := hd1 _ h; simp only at this; omega
    ·exact htodo _ h hb
   ·have := bef_lt hedges _ _ hxi hb; omega
 have hrd : ∀ id ∈ wxb x.e ins, id ∈ tiRd x.nb x.id (bif looks x.o.ins then whab x.e x.o.ins else []) := by
  intro id hid
  rw [hins, hlooks, cond_true]
  unfold tiRd
  split
  ·exact List.mem_cons_of_mem _ hid
  ·exact hid
 rw [hX]
 have hmx : q ≤ x.i ∨ x.i < q := by omega
 refine ⟨wtkb hlooks (fun id hid b hb => ?_) hval, fun b hb => ?_⟩
 ·have hid' := hrd id hid
  rw [hxh] at hb
  have hlt := g.low x.i (by omega) id b hb
  rcases hmx with hle | hgt
  ·by_cases hlo : id < (Hs q).n
   ·rw [wvk _ _ _ hkeys id hlo, ← g.stay x.i hle (by omega) hlo fun y hy h1 h2 h3 => ?_]
    ·exact hb
    ·obtain ⟨G2, hG2⟩ := Option.ne_none_iff_exists'.1 h3
     exact (hclear y hy G2 hG2 (.inl ⟨h1, h2⟩) id hid').1
   ·obtain ⟨y, hy, h1, h2, h3, h4, h5⟩ := g.maker x.i hle (by omega) (by omega) hlt
    obtain ⟨hyi, hyt⟩ := g.mem hy
    obtain ⟨y', h6, _, _, _, h7, h8⟩ := g.at_ y.i hyi
    rw [hyt] at h6
    cases h6
    cases hye : y.eff with
    | some G2 =>
     exfalso
     have := (hclear y hy G2 hye (.inl ⟨h1, h2⟩) id hid').2
     rw [(h7 G2 hye).1] at this
     exact this ⟨h3, h4⟩
    | none =>
     rcases h8 hye with ⟨_, h9⟩ | ⟨c, h9, hk, h10⟩
     ·rw [h9] at h4; omega
     ·rw [h10, wpg] at h4
      have hid3 : id = y.id := by omega
      have := g.stay (id := id) (m := y.i + 1) x.i (by omega) (by omega) (by rw [h10, wpg]; omega) fun z hz z1 z2 z3 => by
       obtain ⟨G2, hG2⟩ := Option.ne_none_iff_exists'.1 z3
       exact (hclear z hz G2 hG2 (.inl ⟨by omega, z2⟩) id hid').1
      rw [hb, h10, AH.get_push hk, if_pos (by omega)] at this
      cases this
      rw [hid3]
      exact wgp _ _ _ _ _ hkeys (hone y hy b h9) hy h9 (by omega)
  ·have hst := g.stay q (by omega) hq hlt fun y hy h1 h2 h3 => by
    obtain ⟨G2, hG2⟩ := Option.ne_none_iff_exists'.1 h3
    exact (hclear y hy G2 hG2 (.inr ⟨h1, h2⟩) id hid').1
   rw [wvk _ _ _ hkeys id (Nat.lt_of_lt_of_le hlt (g.mono x.i q (by omega) hq)), hst]
   exact hb
 ·rcases hxq he with ⟨h1, _⟩ | ⟨c, h1, hk, h2⟩
  ·rw [h1] at hb; cases hb
  ·rw [hb] at h1
   cases h1
   rcases hmx with hle | hgt
   ·exact wgp _ _ _ _ _ hkeys (hone x hx b hb) hx hb (by rw [hxid]; exact g.mono q x.i hle (by omega))
   ·have hlt : x.id < (Hs (x.i + 1)).n := by rw [h2, wpg]; omega
    have hst := g.stay (id := x.id) (m := x.i + 1) q (by omega) hq hlt fun y hy h3 h4 h5 => by
     obtain ⟨G2, hG2⟩ := Option.ne_none_iff_exists'.1 h5
     refine (hclear y hy G2 hG2 (.inr ⟨by omega, h4⟩) x.id ?_).1
     rw [hb]
     simp [tiRd]
    rw [wvk _ _ _ hkeys x.id (Nat.lt_of_lt_of_le hlt (g.mono _ q (by omega) hq)), hst, h2, AH.get_push hk, if_pos hxid]
theorem Run.fin (g : Run P cs ops tr e H e2 H2 Hs) (hpw : tr.Pairwise Apart) (hkeys : ∀ x ∈ tr, x.nb ≠ none → wmb x.id = true) (hone : ∀ y ∈ tr, ∀ b, y.nb = some b → ∀ x ∈ tr, x.nb ≠ none → x.id = y.id → x.nb = some b) :
  ∀ id, (wob H2.n tr (whe H (wpb tr))).get id = H2.get id := by
 obtain ⟨q, hq, hX, hd1, _⟩ := g.reach hpw (done := wpb tr) (todo := []) (by simp)
 have hno : ∀ y ∈ tr, q ≤ y.i → y.eff = none := by
  intro y hy h
  cases he : y.eff with
  | none => rfl
  | some G2 => have := hd1 (y.i, G2) ((wtd _ _).2 ⟨y, hy, rfl, he⟩); simp only at this; omega
 have hstay : ∀ m, q ≤ m → m ≤ ops.size → ∀ id, id < (Hs m).n → H2.get id = (Hs m).get id := by
  intro m h1 h2 id hid
  rw [← g.last]
  exact g.stay ops.size h2 (Nat.le_refl _) hid fun y hy h3 _ h5 => absurd (hno y hy (by omega)) h5
 intro id
 rw [hX]
 by_cases hlo : id < (Hs q).n
 ·rw [wvk _ _ _ hkeys id hlo, hstay q (Nat.le_refl _) hq id hlo]
 ·cases hb : H2.get id with
  | some b =>
   have hlt : id < (Hs ops.size).n := by rw [← g.last] at hb; exact g.low _ (Nat.le_refl _) id b hb
   obtain ⟨y, hy, h1, h2, h3, h4, h5⟩ := g.maker ops.size hq (Nat.le_refl _) (by omega) hlt
   obtain ⟨hyi, hyt⟩ := g.mem hy
   obtain ⟨y', h6, _, _, _, _, h8⟩ := g.at_ y.i hyi
   rw [hyt] at h6
   cases h6
   rcases h8 (hno y hy h1) with ⟨_, h9⟩ | ⟨c, h9, hk, h10⟩
   ·rw [h9] at h4; omega
   ·rw [h10, wpg] at h4
    have hid3 : id = y.id := by omega
    have := hstay (y.i + 1) (by omega) (by omega) id (by rw [h10, wpg]; omega)
    rw [hb, h10, AH.get_push hk, if_pos (by omega)] at this
    cases this
    rw [hid3]
    exact wgp _ _ _ _ _ hkeys (hone y hy b h9) hy h9 (by omega)
  | none =>
   cases hf : (wob H2.n tr (Hs q)).get id with
   | none => rfl
   | some b =>
    exfalso
    rcases whp _ _ _ _ _ hkeys hf with h | ⟨y, hy, h1, h2, h3⟩
    ·have := g.low q hq id b h; omega
    ·obtain ⟨hyi, hyt⟩ := g.mem hy
     obtain ⟨y', h6, _, _, h5, h7, h8⟩ := g.at_ y.i hyi
     rw [hyt] at h6
     cases h6
     have hye : y.eff = none := by
      cases he : y.eff with
      | none => rfl
      | some G2 => rw [(h7 G2 he).2.2.1] at h1; cases h1
     rcases h8 hye with ⟨h9, _⟩ | ⟨c, h9, hk, h10⟩
     ·rw [h9] at h1; cases h1
     ·rw [h1] at h9
      cases h9
      have hge : q ≤ y.i := by
       rcases Nat.lt_or_ge y.i q with hlt | hge
       ·have := g.mono (y.i + 1) q (by omega) hq
        rw [h10, wpg] at this
        omega
       ·exact hge
      have := hstay (y.i + 1) (by omega) (by omega) id (by rw [h10, wpg]; omega)
      rw [hb, h10, AH.get_push hk, if_pos (by omega)] at this
      cases this
end
theorem Ext.same' {ρ ρ' : Ren} {H H' X : AH} {w w' : World} (h : Ext ρ H w ρ' X w') (hn : H'.n = X.n) (hg : ∀ id, H'.get id = X.get id) : Ext ρ H w ρ' H' w' :=
 ⟨h.sub, h.size, h.frame, h.fresh, by rw [hn]; exact h.dom, by rw [hn]; exact h.n, fun id hi => by rw [hg]; exact h.keep id hi, fun id hi => h.new id (by rw [← hg]; exact hi), h.same, h.cells⟩
theorem Rel.same' {ρ : Ren} {B : Nat} {H H' : AH} {w : World} (hR : Rel ρ B H w) (hn : H'.n = H.n) (hg : ∀ id, H'.get id = H.get id) : Rel ρ B H' w :=
 ⟨fun id ver l b h1 h2 => hR.blk id ver l b h1 (by rw [← hg]; exact h2), fun id b h => hR.wf id b (by rw [← hg]; exact h), fun id b h => by rw [hn]; exact hR.low id b (by rw [← hg]; exact h), hR.sep, hR.bnd, hR.base, ⟨hR.fz.cell, fun id ver l i v b h1 h2 h3 => hR.fz.sep id ver l i v b h1 h2 (by rw [← hg]; exact h3)⟩⟩
section
variable {cs : wzb} {ops : Array Oper} {e e2 : Env} {H H2 : AH} {tr : List Tr}
theorem wyqb {cs : wzb} {wr wr' : List Nat} {H : AH} {r : ARes} {v : Value} {nb : Option ABlk} {b : Bool} {H' : AH} {w1 : List Nat} (h : wcg cs wr H r = .did v nb b H' w1) : ∃ w2, wcg cs wr' H r = .did v nb b H' w2 := by
 cases r with
 | none => cases h
 | simple v nb =>
  cases nb with
  | none => cases h; exact ⟨_, rfl⟩
  | some blk => exact ⟨_, h⟩
 | eff v H2 =>
  simp only [wcg] at h ⊢
  cases hq : Nat.ble H.n H2.n with
  | false => rw [hq, cond_false] at h; cases h
  | true => rw [hq, cond_true] at h; cases h; exact ⟨_, by rw [cond_true]⟩
 | call f args => exact ⟨_, h⟩
theorem mid_step {g : Given P cs ops e H e2 H2 tr} {ρ0 ρ : Ren} {B : Nat} {w0 w : World} {S : Nat → Bool} {done todo : List (Nat × AH)} {a : Act} (hfree : Free ρ0 H.n H2.n) (m : Mid g ρ0 B w0 S done todo ρ a w) {i : Nat} {o : Oper} (hn : Next1 ops S i o)
  {K : Act → World → Prop} {Q : Exit → Act → World → Prop} (hK : ∀ done' todo' ρ' a' w', Mid g ρ0 B w0 (plus S i) done' todo' ρ' a' w' → K a' w') : wpOp P ops Q i K a w := by
 obtain ⟨x, e1, H1, e1', H1', hx, hs, he1, hle⟩ := g.chain.at g.hrec hn.op
 have hget := m.get hn
 rw [← he1] at hget
 have hs' := hs
 obtain ⟨hi, ho, hxe, hxh, hid, hwant, _, hcase⟩ := hs'
 have hguard : gsel (woc ops o.guard) (envS S tr e) = some x.want := by
  rw [← hwant]
  unfold woc
  cases hg : o.guard with
  | none => rfl
  | some p =>
   obtain ⟨j, want⟩ := p
   simp only [gsel]
   cases hd : (ops[j]?).bind (·.dst) with
   | none => rfl
   | some d =>
    have := hget d (by simp [wxl, hg, hd])
    simp only [this]
 have hopd : ∀ y ∈ o.op.operands.toList, evl (envS S tr e) y = evl e1 y := by
  intro y hy
  cases y with
  | tmp t => exact hget t (by unfold wxl; simp only [List.mem_append, List.mem_filterMap]; exact .inr ⟨.tmp t, hy, rfl⟩)
  | const v => rfl
  | func f => rfl
  | global gg => rw [he1]; show wejb ((envS S tr e).g.1 gg) = wejb ((envS _ tr e).g.1 gg); rw [wcr, wcr]
 unfold wpOp
 simp only [hn.op]
 rw [wkeb m.env ops o hguard]
 rcases hcase with ⟨h1, h2, h3, h4, h5⟩ | ⟨h1, b, h2, h3⟩
 ·rw [h1]
  exact hK _ _ _ _ _ (m.still hn hx hi ho h4 (v' := undef) (by rw [h2]; exact .flat wwg))
 ·rw [h1]
  refine .inl ?_
  obtain ⟨ins, hcomp, hc⟩ := wdm g.hrec h2
  have hcong := fun X f => wrkb hcomp (by rw [wcr, he1, wcr]) hopd X f
  have hsimple : x.eff = none → insA P e1 H1 H1.n ins = .simple x.v x.nb → insA P (envS S tr e) (wob H2.n tr (whe H done)) x.id ins = .simple x.v x.nb ∧ (∀ b, x.nb = some b → (wob H2.n tr (whe H done)).get x.id = some b) := by
   intro heff hins
   rw [hcong]
   cases hl : looks (some ins) with
   | false =>
    obtain ⟨h6, h7⟩ := waw (X := wob H2.n tr (whe H done)) hl hins
    rw [hid]
    exact ⟨h6, fun b hb => by rw [h7] at hb; cases hb⟩
   | true =>
    have hxo : x.o.ins = some ins := by rw [ho]; exact hcomp
    have h6 := g.same x hx h1 heff done todo m.split (fun y hy hb => ?_) (fun y hy hb => ?_) ins hxo hl (by rw [hxe, hxh, hid]; exact hins)
    ·rw [hxe] at h6; exact h6
    ·rw [hi] at hb
     have := m.closed _ _ (m.past _ hy) hb
     rw [hn.new] at this; cases this
    ·rw [hi] at hb
     have h12 := hn.ahead _ hb
     rw [m.rest _ hy] at h12; cases h12
  rcases hc with ⟨h6, h7, h8, h9⟩ | ⟨blk, h6, h7, h8, h9, h10⟩ | ⟨h6, h7⟩
  ·have heff : x.eff = none := by rw [h3, h7]; rfl
   obtain ⟨h11, h12⟩ := hsimple heff (by rw [h6]; exact h9)
   have key := wfq (fresh := x.id) m.rel m.env hcomp
   rw [h11, h6] at key
   obtain ⟨v', k1, k2⟩ := key
   show o.upon P a K Q ((execOp a.eval o).run P w)
   rw [k1]
   exact hK _ _ _ _ _ (m.still hn hx hi ho heff k2)
  ·have heff : x.eff = none := by rw [h3, h7]; rfl
   obtain ⟨h11, h12⟩ := hsimple heff (by rw [h6]; exact h10)
   have key := wfq (fresh := x.id) m.rel m.env hcomp
   rw [h11, h6] at key
   obtain ⟨v', w', obj, l, k1, k2, k6, k3, k4, k5⟩ := key
   show o.upon P a K Q ((execOp a.eval o).run P w)
   rw [k1]
   exact hK _ _ _ _ _ (m.block hfree hn hx hi ho heff h6 k2 k6 k3 k4 (h12 _ h6))
  ·have heff : x.eff = some H1' := by rw [h3, h7.1]; rfl
   have hmono := hs.mono g.hrec
   obtain ⟨k1, k2, k3⟩ := m.effect hfree hn hx hi ho heff hle (by rw [hid, hxh]) (by rw [hxh]; exact hmono)
   have hstep := step_ok (o := o) (e := envS S tr e) (H := H1) (by rw [wcr]; exact g.hrec)
   obtain ⟨wr2, hsame⟩ : ∃ wr2, wgq P cs (envS S tr e) H1 (comp P o) = .did x.v x.nb b H1' wr2 := by
    rw [hcomp] at h2 ⊢
    have h2' : wcg cs (wnb e1 ins) H1 (insA P e1 H1 H1.n ins) = .did x.v x.nb b H1' x.wr := h2
    show ∃ wr2, wcg cs (wnb (envS S tr e) ins) H1 (insA P (envS S tr e) H1 H1.n ins) = .did x.v x.nb b H1' wr2
    rw [hcong]
    exact wyqb h2'
   rw [hsame] at hstep
   rw [hxh] at k1 k2 k3
   refine hstep.2 ρ B w a K Q k1 m.env k2 fun ρ' v' w' hv hp => ?_
   obtain ⟨done', todo', k4⟩ := k3 ρ' v' w' hv hp
   exact hK _ _ _ _ _ k4
theorem wst {listed : Array Bool} {i : Nat} (hi : i < listed.size) : (fun j => (listed.setIfInBounds i true).getD j false) = plus (fun j => listed.getD j false) i := by
 funext j
 unfold plus
 by_cases h : j = i
 ·subst h
  simp [hi]
 ·rw [if_neg h]
  exact getD_set_ne false fun h' => h h'.symm
theorem any_ok {g : Given P cs ops e H e2 H2 tr} {ρ0 : Ren} {B : Nat} {w0 : World} (hfree : Free ρ0 H.n H2.n) {Q : Exit → Act → World → Prop}
  (hQ : ∀ ρ' a' w', ERel ρ' e2 a' → Rel ρ' B (wob H2.n tr (whe H (wpb tr))) w' → Ext ρ0 H w0 ρ' (wob H2.n tr (whe H (wpb tr))) w' → Q .normal a' w') :
  ∀ (fuel : Nat) (listed : Array Bool) (done todo : List (Nat × AH)) (ρ : Ren) (a : Act) (w : World), listed.size = ops.size → ((List.range ops.size).filter fun j => !listed.getD j false).length ≤ fuel →
   Mid g ρ0 B w0 (fun j => listed.getD j false) done todo ρ a w → wpAny P .any ops Q fuel listed a w := by
 intro fuel
 have hend : ∀ (listed : Array Bool) (done todo : List (Nat × AH)) (ρ : Ren) (a : Act) (w : World), (∀ i, i < ops.size → listed.getD i false = true) → Mid g ρ0 B w0 (fun j => listed.getD j false) done todo ρ a w → Q .normal a w := by
  intro listed done todo ρ a w hall m
  have htodo : todo = [] := by
   cases todo with
   | nil => rfl
   | cons y r =>
    exfalso
    have h1 : y ∈ wpb tr := by rw [m.split]; simp
    obtain ⟨z, hz, h2, _⟩ := (wtd _ _).1 h1
    obtain ⟨p, hp, _⟩ := g.chain.oper _ _ _ _ _ _ _ rfl z hz
    have h3 := hall z.i (Array.getElem?_eq_some_iff.1 hp).1
    have h4 : listed.getD y.1 false = false := m.rest y (by simp)
    rw [h2] at h3
    rw [h3] at h4; cases h4
  have hdone : done = wpb tr := by rw [m.split, htodo]; simp
  have he : envS (fun j => listed.getD j false) tr e = e2 := by
   refine g.chain.envS_upto _ _ _ _ _ _ _ fun x hx => ?_
   obtain ⟨p, hp, _⟩ := g.chain.oper _ _ _ _ _ _ _ rfl x hx
   exact hall x.i (Array.getElem?_eq_some_iff.1 hp).1
  refine hQ ρ a w ?_ ?_ ?_
  ·rw [← he]; exact m.env
  ·rw [← hdone]; exact m.rel
  ·rw [← hdone]; exact m.ext
 induction fuel with
 | zero =>
  intro listed done todo ρ a w hsz hcnt m
  have hall : ∀ i, i < ops.size → listed.getD i false = true := by
   intro i hi
   cases hq : listed.getD i false with
   | true => rfl
   | false =>
    exfalso
    have h1 : i ∈ (List.range ops.size).filter fun j => !listed.getD j false := by simp only [List.mem_filter, List.mem_range, hq]; exact ⟨hi, rfl⟩
    have h2 := List.length_pos_of_mem h1
    omega
  refine ⟨?_, hend listed done todo ρ a w hall m⟩
  cases hr : Region.ready .any ops listed with
  | nil => rfl
  | cons j r =>
   exfalso
   have h1 : j ∈ Region.ready .any ops listed := by rw [hr]; simp
   obtain ⟨h2, o, h3, _⟩ := mem_ready.1 h1
   have h4 := (Array.getElem?_eq_some_iff.1 h3).1
   have h5 := hall j h4
   have h6 : j < listed.size := by omega
   simp [h6] at h2 h5
   rw [h2] at h5; cases h5
 | succ fuel ih =>
  intro listed done todo ρ a w hsz hcnt m
  refine ⟨fun hr => hend listed done todo ρ a w (wxkb g.edges hsz hr) m, fun i hi => ?_⟩
  obtain ⟨h2, o, h3, h4⟩ := mem_ready.1 hi
  have hlt := (Array.getElem?_eq_some_iff.1 h3).1
  have hlt2 : i < listed.size := by omega
  have hnew : listed.getD i false = false := by simp [hlt2] at h2 ⊢; exact h2
  have hnext : Next1 ops (fun j => listed.getD j false) i o := by
   refine ⟨h3, hnew, fun j hj => ?_⟩
   obtain ⟨ed, h5, h6, _, h7⟩ := wbib g.edges h3 hj
   have h8 := h4 ed (by simpa using h5) h6
   rcases h7 with h7 | h7
   ·rw [← h7]; exact h8
   ·exact m.closed j ed.on h8 h7
  refine mid_step hfree m hnext fun done' todo' ρ' a' w' m' => ?_
  rw [← wst hlt2] at m'
  refine ih _ done' todo' ρ' a' w' (by simp [hsz]) ?_ m'
  have hl := left_lt (p := fun j => !listed.getD j false) (q := fun j => !(listed.setIfInBounds i true).getD j false) (i := i) (List.range ops.size) ?_ (by simpa using hlt) (by simp only [hnew]; rfl) ?_
  ·omega
  ·intro j _ hj
   cases hq : listed.getD j false with
   | false => rfl
   | true => rw [getD_set_true hq] at hj; cases hj
  ·have := congrFun (wst hlt2) i
   simp only [plus, if_true] at this
   rw [this]; rfl
end
theorem draw_ok {R : Type} {cs : wzb} {G : Nat → Option (List Value)} (hrec : CSOK P G cs) (hm : P.follows .mixedOrders = true) (id : Nat) (ops : Array Oper) {K : KR R} {r : R} (e : Env) (H : AH) (hg : e.g.1 = G) (h : wfqb P cs ops K e H = some r) :
  ∃ e' H', K e' H' = some r ∧ e'.g = e.g ∧ e'.n = e.n ∧ H.n ≤ H'.n ∧ ∀ (ρ : Ren) (B : Nat) (w : World) (a : Act) (Q : Exit → Act → World → Prop), Rel ρ B H w → ERel ρ e a → Free ρ H.n H'.n →
   (∀ ρ' a' w', ERel ρ' e' a' → Post ρ B H w ρ' H' w' → Q .normal a' w') → (Code.region id ops true).wp P Q a w := by
 subst hg
 unfold wfqb at h
 cases hst : wxo ops with
 | false => rw [hst, cond_false] at h; cases h
 | true =>
 rw [hst, cond_true] at h
 obtain ⟨tr, e2, H2, hchain, hend⟩ := wykb _ _ _ _ _ h
 unfold wbt at hend
 cases hc : (wqf (Region.before ops) ((tr.filterMap tiTr).reverse ++ []).reverse && wji (Region.before ops) ((tr.filterMap tiTr).reverse ++ [])) with
 | false => rw [hc, cond_false] at hend; cases hend
 | true =>
 rw [hc, cond_true] at hend
 simp only [List.append_nil, List.reverse_reverse, Bool.and_eq_true] at hc
 simp only [wxo, Bool.and_eq_true] at hst
 have he2 : e2.g = e.g ∧ e2.n = e.n := by
  rw [← hchain.envS_upto (S := fun _ => true) _ _ _ _ _ _ _ fun _ _ => rfl]
  exact ⟨wcr _ _ _, wrt _ _ _⟩
 have hmono := (hchain.mono hrec _ _ _ _ _ _ _).1
 refine ⟨e2, H2, hend, he2.1, he2.2, hmono, fun ρ B w a Q hR hE hfree hQ => wp_region_any hm ?_⟩
 obtain ⟨Hs, hrun⟩ := hchain.run hrec hR.low
 have hpw := (hchain.apart hrec _ _ _ _ _ _ _).1
 have hkeys : ∀ x ∈ tr, x.nb ≠ none → wmb x.id = true := fun x hx hn => ((hchain.mono hrec _ _ _ _ _ _ _).2 x hx |>.2.2 hn).2
 have hone : ∀ y ∈ tr, ∀ b, y.nb = some b → ∀ x ∈ tr, x.nb ≠ none → x.id = y.id → x.nb = some b := fun y hy b hb x hx hn hi => by
  have := hchain.unique hrec _ _ _ _ _ _ _ x hx y hy hn (by rw [hb]; simp) hi
  rw [this]; exact hb
 have g : Given P cs ops e H e2 H2 tr := ⟨hrec, hchain, hst.1, hst.2, hrun.row hpw hc.1,
  hrun.same hpw hkeys hone hst.1 (acc := (tr.filterMap tiTr).reverse) (fun x hx t ht => by simp only [List.mem_reverse, List.mem_filterMap]; exact ⟨x, hx, ht⟩) hc.2⟩
 have hfin := hrun.fin hpw hkeys hone
 have hinv : ∀ id b, (wob H2.n tr H).get id = some b → H.get id = some b ∨ (H.n ≤ id ∧ id < H2.n ∧ ∀ c, b = .cells c → c.WF) := by
  intro id b hb
  rcases whp _ _ _ _ _ g.keys hb with h | ⟨y, hy, h1, h2, h3⟩
  ·exact .inl h
  ·have := ((hchain.mono hrec _ _ _ _ _ _ _).2 y hy).2.2 (by rw [h1]; simp)
   exact .inr ⟨h3, by omega, fun c hc => g.wf hy (by rw [h1, hc])⟩
 have hR0 : Rel ρ B (wob H2.n tr H) { w with drawn := w.drawn + 1 } := by
  have hd : Rel ρ B H { w with drawn := w.drawn + 1 } := wphb hR
  refine ⟨?_, ?_, ?_, hd.sep, hd.bnd, hd.base, ⟨hd.fz.cell, ?_⟩⟩
  ·intro id ver l b hl hb
   rcases hinv id b hb with h | ⟨h1, h2, _⟩
   ·exact hd.blk id ver l b hl h
   ·rw [hfree id ver h1 h2] at hl; cases hl
  ·intro id c hc
   rcases hinv id _ hc with h | ⟨_, _, h⟩
   ·exact hd.wf id c h
   ·exact h c rfl
  ·intro id b hb
   rw [wbw]
   rcases hinv id b hb with h | ⟨_, h, _⟩
   ·have := hd.low id b h; omega
   ·exact h
  ·intro id ver l i v b hl hv hb
   rcases hinv id b hb with h | ⟨h1, h2, _⟩
   ·exact hd.fz.sep id ver l i v b hl hv h
   ·rw [hfree id ver h1 h2] at hl; cases hl
 refine any_ok (g := g) (w0 := w) (ρ0 := ρ) (B := B) hfree (fun ρ' a' w' h1 h2 h3 => hQ ρ' a' w' h1 ⟨h2.same' (wbw _ _ _).symm fun id => (hfin id).symm, h3.same' (wbw _ _ _).symm fun id => (hfin id).symm⟩) ops.size (Array.replicate ops.size false) [] (wpb tr) ρ a _ (by simp) ?_ ?_
 ·exact Nat.le_trans (List.length_filter_le _ _) (by simp)
 ·have hS : ∀ j, (Array.replicate ops.size false).getD j false = false := by
   intro j
   by_cases h : j < ops.size <;> simp [h]
  refine ⟨fun i j h => ?_, by simp, fun y hy => by simp at hy, fun y _ => hS y.1, hR.low, hR0, ?_, ?_, ?_⟩
  ·simp only [hS] at h; cases h
  ·refine ⟨.refl ρ, Nat.le_refl _, fun _ _ _ => rfl, fun id ver l h h' => (by rw [h] at h'; cases h'), fun id ver l h h' => (by rw [h] at h'; cases h'), ?_, ?_, ?_, ⟨rfl, rfl⟩, fun _ _ _ h => .inl h⟩
   ·rw [wbw]; exact hmono
   ·intro id h1
    obtain ⟨b, hb⟩ := Option.isSome_iff_exists.1 h1
    rw [show whe H [] = H from rfl, wvk _ _ _ g.keys id (hR.low id b hb)]
    exact h1
   ·intro id h1
    obtain ⟨b, hb⟩ := Option.isSome_iff_exists.1 h1
    rcases hinv id b hb with h | ⟨h, _⟩
    ·exact .inl (by rw [h]; rfl)
    ·exact .inr h
  ·intro id ver l h1 h2 h3
   rw [hfree id ver h1 h2] at h3; cases h3
  ·rw [wcbb _ _ _ fun y _ => hS y.i]
   exact hE
end
end Go.Den
namespace Go.Den
noncomputable section
variable {P : Program}
theorem wpm {c : Code} {Q Q' : Exit → Act → World → Prop} {a : Act} {w : World} (h : c.wp P Q a w) (hq : ∀ e a w, Q e a w → Q' e a w) : c.wp P Q' a w :=
 fun b k cs => let ⟨e, a', w', q, arr⟩ := h b k cs; ⟨e, a', w', hq _ _ _ q, arr⟩
theorem wxk {c : Code} {Q Q' : Exit → Act → World → Prop} (hq : ∀ e a w, Q e a w → Q' e a w) : ∀ (n : Nat) (a : Act) (w : World), Code.rounds P c Q n a w → Code.rounds P c Q' n a w := by
 intro n
 induction n with
 | zero => intro a w h; exact h
 | succ n ih =>
  intro a w h
  refine wpm h fun e a w he => ?_
  cases e with
  | normal => exact ih a w he
  | _ => exact hq _ _ _ he
def webb : AExit → Exit
 | .normal => .normal
 | .exit id => .exit id
 | .goto l => .goto l
 | .ret => .ret
theorem wtt {Q : Exit → Act → World → Prop} {K : Act → World → Prop} {x : AExit} (hx : x ≠ .normal) {a : Act} {w : World} (h : Q (webb x) a w) : Exit.then K Q (webb x) a w := by
 cases x with
 | normal => exact absurd rfl hx
 | _ => exact h
def CodePost (p : Nat) (ρ : Ren) (B : Nat) (H : AH) (w : World) (x : AExit) (e' : Env) (H' : AH) : Exit → Act → World → Prop :=
 fun ex a' w' => ex = webb x ∧ ∃ ρ', ERel ρ' e' a' ∧ Rel ρ' B H' w' ∧ Bd ρ' H' ∧ Ext2 p ρ H w ρ' H' w'
structure CodeOK (P : Program) (p : Nat) (c : Code) (e : Env) (H : AH) (x : AExit) (e' : Env) (H' : AH) : Prop where
 g : e'.g = e.g
 sz : e'.n = e.n
 n : p ≤ H'.n
 run : ∀ (ρ : Ren) (B : Nat) (w : World) (a : Act), Rel ρ B H w → Bd ρ H → ERel ρ e a → c.wp P (CodePost p ρ B H w x e' H') a w
structure LoopOK (P : Program) (p : Nat) (c : Code) (e : Env) (H : AH) (x : AExit) (e' : Env) (H' : AH) : Prop where
 nx : x ≠ .normal
 g : e'.g = e.g
 sz : e'.n = e.n
 n : p ≤ H'.n
 run : ∃ n, ∀ (ρ : Ren) (B : Nat) (w : World) (a : Act), Rel ρ B H w → Bd ρ H → ERel ρ e a → Code.rounds P c (CodePost p ρ B H w x e' H') n a w
structure RecOK (P : Program) (G : Nat → Option (List Value)) (rec : Rec) : Prop where
 calls : wyhb P G rec
 loops : ∀ f p c e H o H', rec (.loop f p c e) H = some (o, H') → p ≤ H.n → e.g.1 = G → ∃ x e', o = .code x e' ∧ LoopOK P p c e H x e' H'
theorem CodePost.next {p : Nat} {ρ ρ1 : Ren} {B : Nat} {H H1 H' : AH} {w w1 : World} {x : AExit} {e' : Env} {a2 : Act} {w2 : World} {ex : Exit} (hp : Ext2 p ρ H w ρ1 H1 w1) (h : CodePost p ρ1 B H1 w1 x e' H' ex a2 w2) : CodePost p ρ B H w x e' H' ex a2 w2 := by
 obtain ⟨h1, ρ2, h2, h3, h4, h5⟩ := h
 exact ⟨h1, ρ2, h2, h3, h4, hp.trans h5⟩
theorem wfbb {p : Nat} {ρ ρ1 : Ren} {B : Nat} {H H1 : AH} {w w1 : World} {e1 : Env} {a1 : Act} (hp : p ≤ H.n) (hb : Bd ρ H) (hR : Rel ρ B H w) (hE : ERel ρ1 e1 a1) (h : Post ρ B H w ρ1 H1 w1) : CodePost p ρ B H w .normal e1 H1 .normal a1 w1 :=
 ⟨rfl, ρ1, hE, h.rel, hb.next hR.low h.ext, h.ext.weak hp⟩
theorem wyr {H : AH} {p : Nat} {vs : List Value} {N : Nrm} (h : wyd H p vs = some N) {ρ : Ren} {B : Nat} {w : World} (hR : Rel ρ B H w) :
  Ext2 p ρ H w (turned ρ H N.L (wrd H (wxc vs ++ wgb H N.L) p N.L 0)) N.H w := by
 obtain ⟨q1, q2, q3, q4, q5, q6, q7, q8, q9, q10, q11, q12⟩ := wvn h hR
 generalize wrd H (wxc vs ++ wgb H N.L) p N.L 0 = cs at *
 have src : ∀ {ix ver : Nat} {l : Loc}, turned ρ H N.L cs ix ver = some l → ∃ id ver0, N.L[ix]? = some id ∧ ρ id ver0 = some l := by
  intro ix ver l hl
  simp only [turned] at hl
  cases hx : N.L[ix]? with
  | none => rw [hx] at hl; cases hl
  | some id =>
   rw [hx] at hl
   simp only at hl
   cases hc : wde id cs with
   | false => rw [hc, cond_false] at hl; exact ⟨id, _, rfl, hl⟩
   | true =>
    rw [hc, cond_true] at hl
    split at hl
    ·exact ⟨id, _, rfl, hl⟩
    ·cases hl
 refine ⟨?_, fun _ _ _ h => h, Nat.le_refl _, fun _ _ _ => rfl, ?_, ?_, ⟨rfl, rfl⟩, fun _ _ _ h => .inl h, ?_⟩
 ·intro id ver l hid hl
  simp only [turned, q9 id hid]
  cases hc : wde id cs with
  | false => rw [cond_false]; exact hl
  | true =>
   have := (q12 id id (q9 id hid) hc).1
   omega
 ·intro ix ver l hl
  obtain ⟨id, ver0, h1, h2⟩ := src hl
  exact .inr ⟨id, ver0, l, h2, rfl⟩
 ·intro ix ver l hix hl
  obtain ⟨id, ver0, h1, h2⟩ := src hl
  rw [q9 ix hix] at h1
  cases h1
  exact ⟨ver0, l, h2⟩
 ·intro ix hix _
  exact q8 ix (by omega)
theorem wzqb : ∀ (n : Nat) (t : T Value), wmb n = true → ∀ k, (wjkb n t).get k = if k < n then some JK else t.get k := by
 intro n
 induction n with
 | zero => intro t _ k; rw [if_neg (by omega)]; rfl
 | succ n ih =>
  intro t hk k
  have e : wjkb (n + 1) t = wjkb n (T.put JK 40 t n) := rfl
  rw [e, ih _ (wbh hk (by omega)), T.get_put' (wbh hk (by omega))]
  by_cases h1 : k < n
  ·rw [if_pos h1, if_pos (by omega)]
  ·rw [if_neg h1]
   by_cases h2 : k = n
   ·subst h2; rw [if_pos rfl, if_pos (by omega)]
   ·rw [if_neg h2, if_neg (by omega)]
theorem putL_get : ∀ (lv : List Tmp) (vs : List Value) (t : T Value), (∀ k ∈ lv, wmb k = true) → lv.length = vs.length → ∀ k, (k ∉ lv ∧ (putL lv vs t).get k = t.get k) ∨ ∃ (i : Nat) (v : Value), lv[i]? = some k ∧ vs[i]? = some v ∧ (putL lv vs t).get k = some v := by
 intro lv
 induction lv with
 | nil => intro vs t _ _ k; cases vs <;> exact .inl ⟨by simp, rfl⟩
 | cons a lv ih =>
  intro vs t hk hl k
  cases vs with
  | nil => simp at hl
  | cons v vs =>
   simp only [putL]
   rcases ih vs (T.put v 40 t a) (fun k h => hk k (by simp [h])) (by simpa using hl) k with ⟨h1, h2⟩ | ⟨i, u, h1, h2, h3⟩
   ·rw [T.get_put' (hk a (by simp))] at h2
    by_cases hka : k = a
    ·subst hka
     rw [if_pos rfl] at h2
     exact .inr ⟨0, v, rfl, rfl, h2⟩
    ·rw [if_neg hka] at h2
     exact .inl ⟨by simp [hka, h1], h2⟩
   ·exact .inr ⟨i + 1, u, by simpa using h1, by simpa using h2, h3⟩
theorem wfm (e : Env) : ∀ (lv : List Tmp) (i : Nat), (evs e lv)[i]? = (lv[i]?).map e.get := by
 intro lv
 induction lv with
 | nil => intro i; simp [evs]
 | cons a lv ih => intro i; cases i with
  | zero => simp [evs]
  | succ i => simp [evs, ih]
theorem wzj (e : Env) (lv : List Tmp) : (evs e lv).length = lv.length := by
 induction lv with
 | nil => rfl
 | cons a lv ih => simp [evs, ih]
theorem wjp {ρ ρ' : Ren} {e : Env} {a : Act} (hE : ERel ρ e a) {lv : List Tmp} (hl : lvOk e.n lv = true) {vs : List Value} (hlen : vs.length = lv.length) (hv : ∀ (i : Nat) (k : Tmp) (v : Value), lv[i]? = some k → vs[i]? = some v → ∀ v', VR ρ (e.get k) v' → VR ρ' v v') (hc : ∀ b i v, ρ.cell b i = some v → ρ'.cell b i = some v) :
  ERel ρ' (envL e.n e.g lv vs) a := by
 have hlt : ∀ k ∈ lv, k < e.n := fun k hk => by
  unfold lvOk at hl
  exact Nat.le_of_ble_eq_true (wcf hl k hk)
 refine ⟨hE.defers, hE.size, hE.ok, fun k => ?_, fun i => ?_⟩
 ·simp only [envL, Env.get]
  rcases putL_get lv vs (wjkb e.n .leaf) (fun k hk => wbh hE.ok (Nat.le_of_lt (hlt k hk))) hlen.symm k with ⟨h1, h2⟩ | ⟨i, v, h1, h2, h3⟩
  ·rw [h2, wzqb _ _ hE.ok]
   by_cases h3 : k < e.n
   ·rw [if_pos h3]; exact .junk
   ·rw [if_neg h3]
    have : a.tmps.getD k undef = undef := by have := hE.size; simp [Array.getD_eq_getD_getElem?]; rw [Array.getElem?_eq_none (by omega)]; rfl
    rw [this]
    exact .flat wwg
  ·rw [h3]
   exact hv i k v h1 h2 _ (hE.get k)
 ·refine (hE.glob i).reloc hc ?_
  show wuc (wejb (e.g.1 i)) = true
  cases e.g.1 i <;> rfl
theorem Rel.same {ρ : Ren} {B : Nat} {H H' : AH} {w : World} (hR : Rel ρ B H w) (hn : H'.n = H.n) (hg : ∀ id, H'.get id = H.get id) : Rel ρ B H' w :=
 ⟨fun id ver l b h1 h2 => hR.blk id ver l b h1 (by rw [← hg]; exact h2), fun id b h => hR.wf id b (by rw [← hg]; exact h), fun id b h => by rw [hn]; exact hR.low id b (by rw [← hg]; exact h), hR.sep, hR.bnd, hR.base, ⟨hR.fz.cell, fun id ver l i v b h1 h2 h3 => hR.fz.sep id ver l i v b h1 h2 (by rw [← hg]; exact h3)⟩⟩
theorem wdw (H : AH) : ∀ (d k : Nat), (wwu H k d).length = d ∧ ∀ i, i < d → (wwu H k d)[i]? = some (H.get (k + i)) := by
 intro d
 induction d with
 | zero => intro k; exact ⟨rfl, fun i h => by omega⟩
 | succ d ih =>
  intro k
  have e : wwu H k (d + 1) = H.get k :: wwu H (k + 1) d := rfl
  obtain ⟨h1, h2⟩ := ih (k + 1)
  rw [e]
  refine ⟨by simp [h1], fun i hi => ?_⟩
  cases i with
  | zero => rfl
  | succ i => rw [List.getElem?_cons_succ, h2 i (by omega), show k + 1 + i = k + (i + 1) by omega]
theorem rebuilt {H : AH} (hl : Low H) {k : Nat} (hk : H.n = k) (ho : wmb k = true) : (wdg (wwu H 0 k) AH0).n = H.n ∧ ∀ id, (wdg (wwu H 0 k) AH0).get id = H.get id := by
 obtain ⟨g1, g2⟩ := wdw H k 0
 obtain ⟨h1, h2, h3⟩ := wkt (wwu H 0 k) AH0 (by rw [g1]; simpa [AH0] using ho) wlqb
 refine ⟨by rw [h1, g1]; simp [AH0, hk], fun id => ?_⟩
 rw [h3, if_neg (by simp [AH0])]
 rw [show id - AH0.n = id by simp [AH0]]
 by_cases hi : id < k
 ·rw [g2 id hi]; simp
 ·rw [List.getElem?_eq_none (by omega)]
  cases hq : H.get id with
  | none => rfl
  | some b => have := hl id b hq; omega
theorem warb {R : Type} {K1 : KR R} {K : KC R} {x : AExit} {e : Env} {H : AH} {r : R} (h : seqK K1 K x e H = some r) : (x = .normal ∧ K1 e H = some r) ∨ (x ≠ .normal ∧ K x e H = some r) := by
 cases x with
 | normal => exact .inl ⟨rfl, h⟩
 | _ => exact .inr ⟨(fun h => by cases h), h⟩
theorem weib {R : Type} {cfg : Cfg} {f : FuncId} {p : Nat} {rec : Rec} {G : Nat → Option (List Value)} (hrec : RecOK P G rec) (wog : weg P G cfg.know) (hm : P.follows .mixedOrders = true) {r : R} : ∀ (c : Code) (K : KC R) (e : Env) (H : AH), p ≤ H.n → e.g.1 = G → wkl P cfg f p rec c K e H = some r →
  ∃ x e' H', K x e' H' = some r ∧ CodeOK P p c e H x e' H' := by
 intro c
 induction c with
 | skip => intro K e H hp hg h; exact ⟨_, _, _, h, rfl, rfl, hp, fun ρ B w a hR hb hE => wp_skip ⟨rfl, ρ, hE, hR, hb, .refl _ _ _ _⟩⟩
 | label l => intro K e H hp hg h; exact ⟨_, _, _, h, rfl, rfl, hp, fun ρ B w a hR hb hE => wp_label ⟨rfl, ρ, hE, hR, hb, .refl _ _ _ _⟩⟩
 | ret => intro K e H hp hg h; exact ⟨_, _, _, h, rfl, rfl, hp, fun ρ B w a hR hb hE => wp_ret ⟨rfl, ρ, hE, hR, hb, .refl _ _ _ _⟩⟩
 | exit id => intro K e H hp hg h; exact ⟨_, _, _, h, rfl, rfl, hp, fun ρ B w a hR hb hE => wp_exit ⟨rfl, ρ, hE, hR, hb, .refl _ _ _ _⟩⟩
 | goto l => intro K e H hp hg h; exact ⟨_, _, _, h, rfl, rfl, hp, fun ρ B w a hR hb hE => wp_goto ⟨rfl, ρ, hE, hR, hb, .refl _ _ _ _⟩⟩
 | region id ops drawn =>
  intro K e H hp hg h
  simp only [wkl] at h
  cases drawn with
  | false =>
   rw [cond_false] at h
   obtain ⟨e', H', h1, h2, hz, h3, h4⟩ := ops_ok (wzhb hrec.calls wog) ops ops.toList 0 e H hg rfl h
   refine ⟨_, e', H', h1, h2, hz, Nat.le_trans hp h3, fun ρ B w a hR hb hE => wp_region ?_⟩
   have := h4 ρ B w a (CodePost p ρ B H w .normal e' H') hR hE (hb.free _) fun ρ' a' w' h5 h6 => wfbb hp hb hR h5 h6
   rw [List.range_eq_range', ← Array.length_toList]
   exact this
  | true =>
   rw [cond_true] at h
   obtain ⟨e', H', h1, h2, hz, h3, h4⟩ := draw_ok (wzhb hrec.calls wog) hm id ops e H hg h
   exact ⟨_, e', H', h1, h2, hz, Nat.le_trans hp h3, fun ρ B w a hR hb hE => h4 ρ B w a (CodePost p ρ B H w .normal e' H') hR hE (hb.free _) fun ρ' a' w' h5 h6 => wfbb hp hb hR h5 h6⟩
 | seq c d ihc ihd =>
  intro K e H hp hg h
  simp only [wkl] at h
  obtain ⟨x1, e1, H1, h1, k1⟩ := ihc _ e H hp hg h
  rcases warb h1 with ⟨rfl, h2⟩ | ⟨hx, h2⟩
  ·obtain ⟨x, e', H', h3, k2⟩ := ihd K e1 H1 k1.n (by rw [k1.g]; exact hg) h2
   refine ⟨x, e', H', h3, k2.g.trans k1.g, k2.sz.trans k1.sz, k2.n, fun ρ B w a hR hb hE => wp_seq ?_⟩
   refine wpm (k1.run ρ B w a hR hb hE) ?_
   rintro ex a1 w1 ⟨rfl, ρ1, h4, h5, h6, h7⟩
   exact wpm (k2.run ρ1 B w1 a1 h5 h6 h4) fun ex a2 w2 h8 => h8.next h7
  ·refine ⟨x1, e1, H1, h2, k1.g, k1.sz, k1.n, fun ρ B w a hR hb hE => wp_seq ?_⟩
   refine wpm (k1.run ρ B w a hR hb hE) ?_
   rintro ex a1 w1 ⟨rfl, h4⟩
   exact wtt hx ⟨rfl, h4⟩
 | cond c a b iha ihb =>
  intro K e H hp hg h
  simp only [wkl] at h
  cases hok : wic c with
  | false => rw [hok, cond_false] at h; cases h
  | true =>
   rw [hok, cond_true] at h
   unfold wqab at h
   split at h
   ·rename_i hb
    obtain ⟨x, e', H', h1, k1⟩ := iha K e H hp hg h
    refine ⟨x, e', H', h1, k1.g, k1.sz, k1.n, fun ρ B w a' hR hbd hE => ?_⟩
    have hv := whb hE c hok
    rw [hb] at hv
    exact wp_cond (hv.of_flat rfl) (k1.run ρ B w a' hR hbd hE)
   ·rename_i hb
    obtain ⟨x, e', H', h1, k1⟩ := ihb K e H hp hg h
    refine ⟨x, e', H', h1, k1.g, k1.sz, k1.n, fun ρ B w a' hR hbd hE => ?_⟩
    have hv := whb hE c hok
    rw [hb] at hv
    exact wp_cond (hv.of_flat rfl) (k1.run ρ B w a' hR hbd hE)
   ·cases h
 | block id c ih =>
  intro K e H hp hg h
  simp only [wkl] at h
  obtain ⟨x1, e1, H1, h1, k1⟩ := ih _ e H hp hg h
  have other : (∀ j, x1 ≠ .exit j) → K x1 e1 H1 = some r → ∃ x e' H', K x e' H' = some r ∧ CodeOK P p (.block id c) e H x e' H' := by
   intro hx hk
   refine ⟨x1, e1, H1, hk, k1.g, k1.sz, k1.n, fun ρ B w a hR hb hE => wp_block ?_⟩
   refine wpm (k1.run ρ B w a hR hb hE) ?_
   rintro ex a1 w1 ⟨rfl, h4⟩
   cases x1 with
   | exit j => exact absurd rfl (hx j)
   | _ => exact ⟨rfl, h4⟩
  cases x1 with
  | exit j =>
   simp only [wap] at h1
   cases hj : Nat.beq j id with
   | true =>
    rw [hj, cond_true] at h1
    have hj := Nat.eq_of_beq_eq_true hj
    refine ⟨.normal, e1, H1, h1, k1.g, k1.sz, k1.n, fun ρ B w a hR hb hE => wp_block ?_⟩
    refine wpm (k1.run ρ B w a hR hb hE) ?_
    rintro ex a1 w1 ⟨rfl, h4⟩
    simp only [webb, Exit.inBlock, hj, if_true]
    exact ⟨rfl, h4⟩
   | false =>
    rw [hj, cond_false] at h1
    have hj : ¬ j = id := fun h => by rw [h] at hj; simp at hj
    refine ⟨.exit j, e1, H1, h1, k1.g, k1.sz, k1.n, fun ρ B w a hR hb hE => wp_block ?_⟩
    refine wpm (k1.run ρ B w a hR hb hE) ?_
    rintro ex a1 w1 ⟨rfl, h4⟩
    simp only [webb, Exit.inBlock, hj, if_false]
    exact ⟨rfl, h4⟩
  | normal => exact other (fun j h => by cases h) h1
  | goto l => exact other (fun j h => by cases h) h1
  | ret => exact other (fun j h => by cases h) h1
 | loop c _ =>
  intro K e H hp hg h
  simp only [wkl] at h
  unfold wxu at h
  split at h
  ·rename_i ins outs k _
   cases hlv : (lvOk e.n ins && lvOk e.n outs) with
   | false => rw [hlv, cond_false] at h; cases h
   | true =>
    rw [hlv, cond_true] at h
    simp only [Bool.and_eq_true] at hlv
    cases hN : wyd H p (evs e ins) with
    | none => rw [hN] at h; cases h
    | some N =>
     rw [hN] at h
     simp only [wmeb] at h
     cases hr : rec (.loop f p c (envL e.n e.g ins (wpc N.m (evs e ins)))) N.H with
     | none => rw [hr] at h; cases h
     | some q =>
      obtain ⟨o, H1⟩ := q
      rw [hr] at h
      obtain ⟨x, e1, rfl, k1⟩ := hrec.loops _ _ _ _ _ _ _ hr (wxhb hN) hg
      simp only [wjqb] at h
      cases hany : Nat.beq k 999999 with
      | true =>
       rw [hany, cond_true] at h
       refine ⟨x, _, _, h, rfl, rfl, k1.n, fun ρ B w a hR hb hE => ?_⟩
       obtain ⟨q1, q2, q3, q4, _⟩ := wvn hN hR
       have hX := wyr hN hR
       have hE0 : ERel (turned ρ H N.L (wrd H (wxc (evs e ins) ++ wgb H N.L) p N.L 0)) (envL e.n e.g ins (wpc N.m (evs e ins))) a := by
        refine wjp hE hlv.1 (by rw [whh, wzj]) (fun i t v h1 h2 v' hv => ?_) hX.cell
        rw [wcm, wfm, h1] at h2
        simp only [Option.map_some, Option.some.injEq] at h2
        subst h2
        exact q4 _ _ (List.mem_of_getElem? (i := i) (by rw [wfm, h1]; rfl)) hv
       obtain ⟨n, k2⟩ := k1.run
       refine wp_loop_rounds n (wxk (fun ex a1 w1 h5 => ?_) n _ _ (k2 _ B w a q1 q2 hE0))
       obtain ⟨rfl, ρ1, g1, g2, g3, g4⟩ := h5
       refine ⟨rfl, ρ1, ?_, g2, g3, hX.trans g4⟩
       have hsz : e1.n = e.n := k1.sz
       have hlv2 : lvOk e1.n outs = true := by rw [hsz]; exact hlv.2
       have hfin := wjp g1 hlv2 (vs := evs e1 outs) (wzj _ _) (fun i t v h1 h2 v' hv => by
        rw [wfm, h1] at h2
        simp only [Option.map_some, Option.some.injEq] at h2
        subst h2
        exact hv) (ρ' := ρ1) (fun _ _ _ h => h)
       rw [hsz, k1.g] at hfin
       exact hfin
      | false =>
       rw [hany, cond_false] at h
       cases hk : (Nat.beq H1.n k && wmb k) with
       | false => rw [hk, cond_false] at h; cases h
       | true =>
        rw [hk, cond_true] at h
        simp only [Bool.and_eq_true, Nat.beq_eq] at hk
        refine ⟨x, _, _, h, rfl, rfl, ?_, fun ρ B w a hR hb hE => ?_⟩
        ·rw [wwhb, (wdw H1 k 0).1, ← hk.1]
         have := k1.n
         show p ≤ 0 + H1.n
         omega
        ·obtain ⟨q1, q2, q3, q4, _⟩ := wvn hN hR
         have hX := wyr hN hR
         have hE0 : ERel (turned ρ H N.L (wrd H (wxc (evs e ins) ++ wgb H N.L) p N.L 0)) (envL e.n e.g ins (wpc N.m (evs e ins))) a := by
          refine wjp hE hlv.1 (by rw [whh, wzj]) (fun i t v h1 h2 v' hv => ?_) hX.cell
          rw [wcm, wfm, h1] at h2
          simp only [Option.map_some, Option.some.injEq] at h2
          subst h2
          exact q4 _ _ (List.mem_of_getElem? (i := i) (by rw [wfm, h1]; rfl)) hv
         obtain ⟨n, k2⟩ := k1.run
         refine wp_loop_rounds n (wxk (fun ex a1 w1 h5 => ?_) n _ _ (k2 _ B w a q1 q2 hE0))
         obtain ⟨rfl, ρ1, g1, g2, g3, g4⟩ := h5
         obtain ⟨r1, r2⟩ := rebuilt g2.low hk.1 hk.2
         refine ⟨rfl, ρ1, ?_, g2.same r1 r2, fun id ver hid => g3 id ver (by rw [← r1]; exact hid), hX.trans (g4.trans ⟨fun _ _ _ _ h => h, fun _ _ _ h => h, Nat.le_refl _, fun _ _ _ => rfl, fun id ver l h => .inr ⟨id, ver, l, h, rfl⟩, fun id ver l _ h => ⟨ver, l, h⟩, ⟨rfl, rfl⟩, fun _ _ _ h => .inl h, fun id _ h => by rw [r2]; exact h⟩)⟩
         have hsz : e1.n = e.n := k1.sz
         have hlv2 : lvOk e1.n outs = true := by rw [hsz]; exact hlv.2
         have hfin := wjp g1 hlv2 (vs := evs e1 outs) (wzj _ _) (fun i t v h1 h2 v' hv => by
          rw [wfm, h1] at h2
          simp only [Option.map_some, Option.some.injEq] at h2
          subst h2
          exact hv) (ρ' := ρ1) (fun _ _ _ h => h)
         rw [hsz, k1.g] at hfin
         exact hfin
  ·unfold wshb at h
   cases hr : rec (.loop f p c e) H with
   | none => rw [hr] at h; cases h
   | some q =>
    obtain ⟨o, H1⟩ := q
    rw [hr] at h
    obtain ⟨x, e1, rfl, k1⟩ := hrec.loops _ _ _ _ _ _ _ hr hp hg
    obtain ⟨n, k2⟩ := k1.run
    exact ⟨x, e1, H1, h, k1.g, k1.sz, k1.n, fun ρ B w a hR hb hE => wp_loop_rounds n (k2 ρ B w a hR hb hE)⟩
 | _ => intro K e H hp hg h; cases h
theorem loop_ok {cfg : Cfg} {f : FuncId} {p : Nat} {rec : Rec} {G : Nat → Option (List Value)} (hrec : RecOK P G rec) (wog : weg P G cfg.know) (hm : P.follows .mixedOrders = true) {c : Code} {e : Env} {H : AH} {o : Out} {H' : AH} (hp : p ≤ H.n) (hg : e.g.1 = G)
  (h : wkl P cfg f p rec c (wki rec f p c (cfg.live f (wqc c))) e H = some (o, H')) : ∃ x e', o = .code x e' ∧ LoopOK P p c e H x e' H' := by
 obtain ⟨x1, e1, H1, h1, k1⟩ := weib hrec wog hm c _ e H hp hg h
 have ends : ∀ x e1 H1, x ≠ .normal → CodeOK P p c e H x e1 H1 → LoopOK P p c e H x e1 H1 := by
  intro x e1 H1 hx k
  refine ⟨hx, k.g, k.sz, k.n, 1, fun ρ B w a hR hb hE => ?_⟩
  refine wpm (k.run ρ B w a hR hb hE) ?_
  rintro ex a1 w1 ⟨rfl, h4⟩
  exact wtt hx ⟨rfl, h4⟩
 cases hl : cfg.live f (wqc c) with
 | none =>
  rw [hl] at h1
  cases x1 with
  | normal =>
   simp only [wki] at h1
   obtain ⟨x, e', rfl, k2⟩ := hrec.loops _ _ _ _ _ _ _ h1 k1.n (by rw [k1.g]; exact hg)
   obtain ⟨n, k3⟩ := k2.run
   refine ⟨x, e', rfl, k2.nx, k2.g.trans k1.g, k2.sz.trans k1.sz, k2.n, n + 1, fun ρ B w a hR hb hE => ?_⟩
   refine wpm (k1.run ρ B w a hR hb hE) ?_
   rintro ex a1 w1 ⟨rfl, ρ1, h4, h5, h6, h7⟩
   exact wxk (fun ex a2 w2 h8 => h8.next h7) n _ _ (k3 ρ1 B w1 a1 h5 h6 h4)
  | exit j => simp only [wki, Option.some.injEq, Prod.mk.injEq] at h1; obtain ⟨rfl, rfl⟩ := h1; exact ⟨_, _, rfl, ends _ _ _ (fun h => by cases h) k1⟩
  | goto j => simp only [wki, Option.some.injEq, Prod.mk.injEq] at h1; obtain ⟨rfl, rfl⟩ := h1; exact ⟨_, _, rfl, ends _ _ _ (fun h => by cases h) k1⟩
  | ret => simp only [wki, Option.some.injEq, Prod.mk.injEq] at h1; obtain ⟨rfl, rfl⟩ := h1; exact ⟨_, _, rfl, ends _ _ _ (fun h => by cases h) k1⟩
 | some q =>
  obtain ⟨ins, outs, k⟩ := q
  rw [hl] at h1
  simp only [wki] at h1
  cases hlv : (lvOk e1.n ins && lvOk e1.n outs) with
  | false => rw [hlv, cond_false] at h1; cases h1
  | true =>
   rw [hlv, cond_true] at h1
   simp only [Bool.and_eq_true] at hlv
   have turn : ∀ (lv : List Tmp) (N : Nrm), lvOk e1.n lv = true → wyd H1 p (evs e1 lv) = some N → ∀ (ρ : Ren) (B : Nat) (w : World) (a : Act), Rel ρ B H1 w → ERel ρ e1 a →
     ∃ ρ', Rel ρ' B N.H w ∧ Bd ρ' N.H ∧ ERel ρ' (envL e1.n e1.g lv (wpc N.m (evs e1 lv))) a ∧ Ext2 p ρ H1 w ρ' N.H w := by
    intro lv N hlv hN ρ B w a hR hE
    obtain ⟨q1, q2, q3, q4, _⟩ := wvn hN hR
    have hX := wyr hN hR
    refine ⟨_, q1, q2, ?_, hX⟩
    refine wjp hE hlv (by rw [whh, wzj]) (fun i t v h1 h2 v' hv => ?_) hX.cell
    rw [wcm, wfm, h1] at h2
    simp only [Option.map_some, Option.some.injEq] at h2
    subst h2
    exact q4 _ _ (List.mem_of_getElem? (i := i) (by rw [wfm, h1]; rfl)) hv
   have fin : ∀ x, x ≠ .normal → x1 = x → (match wyd H1 p (evs e1 outs) with
     | some N => some (.code x (envL e1.n e1.g outs (wpc N.m (evs e1 outs))), N.H)
     | none => none) = some (o, H') → ∃ x e', o = .code x e' ∧ LoopOK P p c e H x e' H' := by
    intro x hx hx1 h2
    subst hx1
    cases hN : wyd H1 p (evs e1 outs) with
    | none => rw [hN] at h2; cases h2
    | some N =>
     rw [hN] at h2
     cases h2
     refine ⟨_, _, rfl, hx, k1.g, k1.sz, wxhb hN, 1, fun ρ B w a hR hb hE => ?_⟩
     refine wpm (k1.run ρ B w a hR hb hE) ?_
     rintro ex a1 w1 ⟨rfl, ρ1, h4, h5, h6, h7⟩
     obtain ⟨ρ2, g1, g2, g3, g4⟩ := turn outs N hlv.2 hN ρ1 B w1 a1 h5 h4
     exact wtt hx ⟨rfl, ρ2, g3, g1, g2, h7.trans g4⟩
   cases x1 with
   | normal =>
    simp only [wzf] at h1
    cases hN : wyd H1 p (evs e1 ins) with
    | none => rw [hN] at h1; cases h1
    | some N =>
     rw [hN] at h1
     simp only at h1
     obtain ⟨x, e', rfl, k2⟩ := hrec.loops _ _ _ _ _ _ _ h1 (wxhb hN) (by show e1.g.1 = G; rw [k1.g]; exact hg)
     obtain ⟨n, k3⟩ := k2.run
     refine ⟨x, e', rfl, k2.nx, k2.g.trans k1.g, k2.sz.trans k1.sz, k2.n, n + 1, fun ρ B w a hR hb hE => ?_⟩
     refine wpm (k1.run ρ B w a hR hb hE) ?_
     rintro ex a1 w1 ⟨rfl, ρ1, h4, h5, h6, h7⟩
     obtain ⟨ρ2, g1, g2, g3, g4⟩ := turn ins N hlv.1 hN ρ1 B w1 a1 h5 h4
     exact wxk (fun ex a2 w2 h8 => h8.next (h7.trans g4)) n _ _ (k3 ρ2 B w1 a1 g1 g2 g3)
   | exit j => exact fin _ (fun h => by cases h) rfl h1
   | goto j => exact fin _ (fun h => by cases h) rfl h1
   | ret => exact fin _ (fun h => by cases h) rfl h1
theorem wbrb : ∀ (l : List Value) (k : Nat) (t : T Value), wmb (k + l.length) = true → ∀ j, (wux l k t).get j = if k ≤ j ∧ j < k + l.length then l[j - k]? else t.get j := by
 intro l
 induction l with
 | nil => intro k t _ j; rw [if_neg (by simp)]; rfl
 | cons v r ih =>
  intro k t hk j
  simp only [wux]
  rw [List.length_cons] at hk
  rw [ih (k + 1) _ (by rw [show k + 1 + r.length = k + (r.length + 1) by omega]; exact hk), T.get_put' (wbh hk (by omega))]
  by_cases h1 : j = k
  ·subst h1
   rw [if_neg (by omega), if_pos rfl, if_pos (by simp)]
   simp
  ·by_cases h2 : k + 1 ≤ j ∧ j < k + 1 + r.length
   ·rw [if_pos h2, if_pos (by simp; omega), show j - k = (j - (k + 1)) + 1 by omega]
    simp
   ·rw [if_neg h2, if_neg h1, if_neg (by simp; omega)]
theorem wcrb {ρ : Ren} {args : List Value} {args' : Array Value} {n : Nat} {g : (Nat → Option (List Value)) × Bool} (hG : GOK g.1 ρ) (h : VRL ρ args args'.toList) (hl : args.length ≤ n) (hk : wmb n = true) :
  ERel ρ { n := n, t := wux args 0 .leaf, g := g } { tmps := args' ++ Array.replicate (n - args'.size) undef, defers := [] } := by
 have hsz : args'.size = args.length := by rw [h.1]; simp
 refine ⟨rfl, by simp; omega, hk, fun k => ?_, fun i => hG i⟩
 simp only [Env.get]
 rw [wbrb args 0 .leaf (by rw [Nat.zero_add]; exact wbh hk hl)]
 by_cases h1 : k < args.length
 ·rw [if_pos (by omega), Nat.sub_zero, List.getElem?_eq_getElem h1]
  have e1 : (args' ++ Array.replicate (n - args'.size) undef).getD k undef = args'[k] := by
   rw [Array.getD_eq_getD_getElem?, Array.getElem?_append_left (by omega), Array.getElem?_eq_getElem (by omega)]
   rfl
  simp only
  rw [e1]
  exact h.2 k _ _ (List.getElem?_eq_getElem h1) (by simp [hsz, h1])
 ·rw [if_neg (by omega)]
  have e1 : (args' ++ Array.replicate (n - args'.size) undef).getD k undef = undef := by
   rw [Array.getD_eq_getD_getElem?, Array.getElem?_append_right (by omega)]
   by_cases h2 : k - args'.size < n - args'.size
   ·simp [h2]
   ·simp [h2]
  rw [e1]
  exact .flat wwg
theorem wdrb {raw : Bool} {p : Nat} {rs : List ResultVar} {x : AExit} {e : Env} {H : AH} {o : Out} {H' : AH} (h : retK P raw p rs x e H = some (o, H')) :
  isEnd x = true ∧ ∃ vs u fr N, wuh P H e rs = some vs ∧ ((raw = true ∧ u = wmd vs ∧ fr = []) ∨ (raw = false ∧ wwc P H 20 [wmd vs] = some ([u], fr))) ∧ wyd (raise H fr) p [u] = some N ∧ o = .val (renV N.m u) ∧ H' = N.H := by
 unfold retK at h
 cases hx : isEnd x with
 | false => rw [hx, cond_false] at h; cases h
 | true =>
  rw [hx, cond_true] at h
  refine ⟨rfl, ?_⟩
  cases hr : wuh P H e rs with
  | none => rw [hr] at h; cases h
  | some vs =>
   rw [hr] at h
   simp only [valK] at h
   have fin : ∀ u fr, wkkb p H (some ([u], fr)) = some (o, H') → ∃ N, wyd (raise H fr) p [u] = some N ∧ o = .val (renV N.m u) ∧ H' = N.H := by
    intro u fr h
    simp only [wkkb] at h
    cases hN : wyd (raise H fr) p [u] with
    | none => rw [hN] at h; cases h
    | some N => rw [hN] at h; cases h; exact ⟨N, rfl, rfl, rfl⟩
   cases raw with
   | true =>
    rw [cond_true] at h
    obtain ⟨N, h1, h2, h3⟩ := fin _ _ h
    exact ⟨vs, _, [], N, rfl, .inl ⟨rfl, rfl, rfl⟩, h1, h2, h3⟩
   | false =>
    rw [cond_false] at h
    cases hs : wwc P H 20 [wmd vs] with
    | none => rw [hs] at h; cases h
    | some q =>
     obtain ⟨l, fr⟩ := q
     rw [hs] at h
     cases l with
     | nil => cases h
     | cons u l =>
      cases l with
      | cons u2 l => cases h
      | nil =>
       obtain ⟨N, h1, h2, h3⟩ := fin _ _ h
       exact ⟨vs, u, fr, N, rfl, .inr ⟨rfl, hs⟩, h1, h2, h3⟩
theorem callF_ok {cfg : Cfg} {rec : Rec} (hrec : RecOK P cfg.glob rec) (wog : weg P cfg.glob cfg.know) (hm : P.follows .mixedOrders = true) {f : FuncId} {args : List Value} {H H' : AH} {o : Out} (h : wkqb P cfg rec f args H P.funcs[f]? = some (o, H')) : ∃ v, o = .val v ∧ wby P cfg.glob f args H v H' := by
 cases hf : P.funcs[f]? with
 | none => rw [hf] at h; cases h
 | some fn =>
  rw [hf] at h
  simp only [wkqb] at h
  cases hb : fn.body with
  | none => rw [hb] at h; cases h
  | some c =>
   rw [hb] at h
   simp only at h
   cases hq : (Nat.ble args.length fn.ntmps && wmb fn.ntmps) with
   | false => rw [hq, cond_false] at h; cases h
   | true =>
    rw [hq, cond_true] at h
    simp only [Bool.and_eq_true] at hq
    have hl := Nat.le_of_ble_eq_true hq.1
    obtain ⟨x1, e1, H1, h1, k1⟩ := weib hrec wog hm c _ _ H (Nat.le_refl _) rfl h
    obtain ⟨hx, vs, u, fr, N, h2, h3, h4, rfl, rfl⟩ := wdrb h1
    refine ⟨_, rfl, wxhb h4, fun ρ B w args' hR hG hbd hA => calls_of_wp hf hb ?_⟩
    refine wpm (k1.run ρ B w _ hR hbd (wcrb (g := (cfg.glob, cfg.own f)) hG hA hl hq.2)) ?_
    rintro ex a1 w1 ⟨rfl, ρ1, h5, h6, h7, h8⟩
    obtain ⟨v', g1, g2⟩ := wleb h2 h6 h5
    have hk : wih fr ∧ VR (ρ1.frz H1 w1 fr) u v' := by
     rcases h3 with ⟨_, rfl, rfl⟩ | ⟨_, hs⟩
     ·exact ⟨wnd, g2.mono (wpk ρ1 H1 w1 [])⟩
     ·obtain ⟨q1, q2⟩ := wnqb h6 20 [wmd vs] [v'] (.cons g2 (.nil _)) _ _ hs
      obtain ⟨_, _, e, q3, _⟩ := q2.uncons
      cases e
      exact ⟨q1, q3⟩
    have hp := wot h6 hk.1
    obtain ⟨r1, r2, r3, r4, _⟩ := wvn h4 hp.rel
    have hX := wyr h4 hp.rel
    have hpn : H.n ≤ H1.n := k1.n
    have done : ∃ ρ' v'', VR ρ' (renV N.m u) v'' ∧ v'' = v' ∧ Rel ρ' B N.H w1 ∧ Bd ρ' N.H ∧ Ext2 H.n ρ H w ρ' N.H w1 :=
     ⟨_, v', r4 u v' (by simp) hk.2, rfl, r1, r2, (h8.trans (hp.ext.weak hpn)).trans hX⟩
    obtain ⟨ρ', v'', d1, d2, d3, d4, d5⟩ := done
    subst d2
    cases x1 with
    | normal => exact ⟨h5.defers, v'', g1, ρ', v'', rfl, d1, d3, d4, d5⟩
    | ret => exact ⟨h5.defers, v'', g1, ρ', v'', rfl, d1, d3, d4, d5⟩
    | _ => cases hx
theorem step_rec {cfg : Cfg} {rec : Rec} (hrec : RecOK P cfg.glob rec) (wog : weg P cfg.glob cfg.know) (hm : P.follows .mixedOrders = true) : RecOK P cfg.glob (wht P cfg rec) := by
 refine ⟨fun f args H o H' h => callF_ok hrec wog hm h, fun f p c e H o H' h hp hg => loop_ok hrec wog hm hp hg h⟩
theorem den_ok (cfg : Cfg) (wog : weg P cfg.glob cfg.know) (hm : P.follows .mixedOrders = true) : ∀ n, RecOK P cfg.glob (den P cfg n) := by
 intro n
 induction n with
 | zero => exact ⟨fun f args H o H' h => (by cases h), fun f p c e H o H' h => (by cases h)⟩
 | succ n ih => exact step_rec ih wog hm
theorem werb {cfg : Cfg} (wog : weg P cfg.glob cfg.know) (hm : P.follows .mixedOrders = true) {n : Nat} {f : FuncId} {args : List Value} {H H' : AH} {o : Out} (h : den P cfg n (.call f args) H = some (o, H')) : ∃ v, o = .val v ∧ wby P cfg.glob f args H v H' :=
 (den_ok cfg wog hm n).calls _ _ _ _ _ h
end
end Go.Den
namespace Go.Den
noncomputable section
variable {P : Program}
theorem wfrb (ρ : Ren) (w : World) (hl : ∀ id ver, ρ id ver = none) (hc : ∀ b i x, ρ.cell b i = some x → w.cell? ⟨b, i, none⟩ = some x) : Rel ρ 0 AH0 w :=
 ⟨fun id ver l b h => (by rw [hl] at h; cases h), fun _ _ h => (by cases h), fun _ _ h => (by cases h), fun id ver l id' ver' l' h => (by rw [hl] at h; cases h), fun id ver l h => (by rw [hl] at h; cases h), Nat.zero_le _, ⟨hc, fun id ver l i v b h => (by rw [hl] at h; cases h)⟩⟩
theorem wut {cfg : Cfg} (wog : weg P cfg.glob cfg.know) (hm : P.follows .mixedOrders = true) {n : Nat} {f : FuncId} {a : List Value} {H' : AH} {v : Value} (h : den P cfg n (.call f a) AH0 = some (.val v, H'))
  (ρ : Ren) (w : World) (args' : Array Value) (hc : ∀ b i x, ρ.cell b i = some x → w.cell? ⟨b, i, none⟩ = some x) (hG : GOK cfg.glob ρ) (hA : VRL ρ.noloc a args'.toList) :
  Calls P f args' w fun e w' => ∃ ρ' v', e = .returned v' ∧ VR ρ' v v' ∧ (∀ b i x, ρ.cell b i = some x → ρ'.cell b i = some x) ∧ (∀ b i x, ρ'.cell b i = some x → ρ.cell b i = some x ∨ w.heap.size ≤ b) ∧
   (∀ b i x, ρ'.cell b i = some x → w'.cell? ⟨b, i, none⟩ = some x) ∧ w.heap.size ≤ w'.heap.size ∧ (∀ b : Nat, b < w.heap.size → w'.heap[b]? = w.heap[b]?) ∧ w'.os = w.os ∧ w'.output = w.output := by
 obtain ⟨v0, e0, _, hcall⟩ := werb wog hm h
 cases e0
 refine (hcall ρ.noloc 0 w args' (wfrb _ w (fun _ _ => rfl) hc) (hG.cells fun b i v h => h) (fun _ _ _ => rfl) hA).mono ?_
 rintro e w' ⟨ρ', v', rfl, h1, h2, _, h3⟩
 refine ⟨ρ', v', rfl, h1, h3.cell, fun b i x hx => ?_, h2.fz.cell, h3.size, fun b hb => h3.frame b hb fun id ver l hl => (by cases hl), h3.same.1, h3.same.2⟩
 rcases h3.cells b i x hx with h4 | h4 | ⟨id, ver, l, h4, _⟩
 ·exact .inl h4
 ·exact .inr h4
 ·cases h4
theorem wdr {cfg : Cfg} (wog : weg P cfg.glob cfg.know) (hm : P.follows .mixedOrders = true) {n : Nat} {f : FuncId} {a : List Value} {H' : AH} {v : Value} (h : den P cfg n (.call f a) AH0 = some (.val v, H'))
  (ha : wcb a = true) (hv : wuc v = true) : wqk P cfg.glob f a v := by
 intro ρ w args' hc hG hA
 have hA' : VRL ρ.noloc a args'.toList := ⟨hA.1, fun i u u' e e' => VR.reloc (ρ := ρ) (ρ2 := ρ.noloc) (fun b i x h => h) (hA.2 i u u' e e') ((wpd a).1 ha u (List.mem_of_getElem? e))⟩
 refine (wut wog hm h ρ w args' hc hG hA').mono ?_
 rintro e w' ⟨ρ', v', rfl, h1, h2, h3, h4, h5, h6, h7, h8⟩
 exact ⟨⟨ρ.loc, ρ'.cell⟩, v', rfl, VR.reloc (ρ := ρ') (ρ2 := ⟨ρ.loc, ρ'.cell⟩) (fun b i x h => h) h1 hv, fun _ _ => rfl, h2, h3, h4, h5, h6, h7, h8⟩
def isNo : Value → Bool
 | .slice none 0 _ => true
 | .func (.yield 0) ⟨[]⟩ ⟨[]⟩ => true
 | _ => false
def wxeb : Option (Out × AH) → Bool
 | some (.val v, _) => isNo v
 | _ => false
theorem isNo_rel {ρ : Ren} {v v' : Value} (h : isNo v = true) (hr : VR ρ v v') : ∃ a c, v' = .slice a 0 c := by
 unfold isNo at h
 split at h
 ·have := hr.of_flat rfl; exact ⟨_, _, this⟩
 ·exact hr.list_len
 ·cases h
theorem known_no {cfg : Cfg} (wog : weg P cfg.glob cfg.know) (hm : P.follows .mixedOrders = true) {n : Nat} {f : FuncId} (h1 : ∀ c, wxeb (den P cfg n (.call f [.slice none 0 c]) AH0) = true)
  (h2 : wxeb (den P cfg n (.call f [.slice (some ⟨0, 0, none⟩) 0 0]) AH0) = true) : wqk P cfg.glob f [FL 0 []] (FL 0 []) := by
 have spec : ∀ {r : Option (Out × AH)}, wxeb r = true → ∃ v H, r = some (.val v, H) ∧ isNo v = true := by
  intro r hr
  unfold wxeb at hr
  split at hr
  ·exact ⟨_, _, rfl, hr⟩
  ·cases hr
 intro ρ w args' hc hG hA
 obtain ⟨x, r, hx, hx1, hx2⟩ := hA.uncons
 have hr := hx2.unnil
 subst hr
 obtain ⟨a', c', rfl⟩ := hx1.list_len
 have fin : ∀ {a : List Value}, VRL ρ.noloc a args'.toList → wxeb (den P cfg n (.call f a) AH0) = true → Calls P f args' w fun e w' => ∃ ρ' v', e = .returned v' ∧ VR ρ' (FL 0 []) v' ∧ (∀ id ver, ρ' id ver = ρ id ver) ∧ (∀ b i x, ρ.cell b i = some x → ρ'.cell b i = some x) ∧ (∀ b i x, ρ'.cell b i = some x → ρ.cell b i = some x ∨ w.heap.size ≤ b) ∧
   (∀ b i x, ρ'.cell b i = some x → w'.cell? ⟨b, i, none⟩ = some x) ∧ w.heap.size ≤ w'.heap.size ∧ (∀ b : Nat, b < w.heap.size → w'.heap[b]? = w.heap[b]?) ∧ w'.os = w.os ∧ w'.output = w.output := by
  intro a hA2 hres
  obtain ⟨v, H, hd, hn⟩ := spec hres
  refine (wut wog hm hd ρ w args' hc hG hA2).mono ?_
  rintro e w' ⟨ρ', v', rfl, g1, g2, g3, g4, g5, g6, g7, g8⟩
  obtain ⟨a2, c2, rfl⟩ := isNo_rel hn g1
  exact ⟨⟨ρ.loc, ρ'.cell⟩, _, rfl, .listNo, fun _ _ => rfl, g2, g3, g4, g5, g6, g7, g8⟩
 cases a' with
 | none => exact fin (a := [.slice none 0 c']) (by rw [hx]; exact .cons (.flat rfl) (.nil _)) (h1 c')
 | some a' => exact fin (a := [.slice (some ⟨0, 0, none⟩) 0 0]) (by rw [hx]; exact .cons .sliceEmpty (.nil _)) h2
def wfib : FuncId → Option (List Value → Option Value) := fun _ => none
theorem wvt {G : Nat → Option (List Value)} : weg P G wfib := fun f g a v h => (by cases h)
def wgbb (l : List FuncId) (know : FuncId → Option (List Value → Option Value)) : FuncId → Option (List Value → Option Value) := fun f =>
 bif l.any (fun k => Nat.beq k f) then some (fun a => match a with
  | [v] => bif isFL0 v then some (FL 0 []) else none
  | _ => none) else know f
where isFL0 : Value → Bool
 | .func (.yield 0) ⟨[]⟩ ⟨[]⟩ => true
 | _ => false
theorem wgrb {G : Nat → Option (List Value)} {l : List FuncId} {know : FuncId → Option (List Value → Option Value)} (h : ∀ f ∈ l, wqk P G f [FL 0 []] (FL 0 [])) (hk : weg P G know) : weg P G (wgbb l know) := by
 intro f g a v hf hg
 unfold wgbb at hf
 cases hq : l.any (fun k => Nat.beq k f) with
 | false => rw [hq, cond_false] at hf; exact hk f g a v hf hg
 | true =>
  rw [hq, cond_true] at hf
  cases hf
  simp only [List.any_eq_true] at hq
  obtain ⟨k, hk1, hk2⟩ := hq
  have := Nat.eq_of_beq_eq_true hk2
  subst this
  simp only at hg
  split at hg
  ·rename_i x
   cases hx : wgbb.isFL0 x with
   | false => rw [hx, cond_false] at hg; cases hg
   | true =>
    rw [hx, cond_true] at hg
    cases hg
    unfold wgbb.isFL0 at hx
    split at hx
    ·exact h _ hk1
    ·cases hx
  ·cases hg
def wky : List (FuncId × List Value × Value) → FuncId → List Value → Option Value
 | [], _, _ => none
 | (k, b, v) :: r, f, a => bif Nat.beq k f && beqL b a then some v else wky r f a
def wyeb (l : List (FuncId × List Value × Value)) (know : FuncId → Option (List Value → Option Value)) : FuncId → Option (List Value → Option Value) := fun f =>
 bif l.any (fun k => Nat.beq k.1 f) then some (wky l f) else know f
theorem whbb : ∀ (l : List (FuncId × List Value × Value)) (f : FuncId) (a : List Value) (v : Value), wky l f a = some v → (f, a, v) ∈ l := by
 intro l
 induction l with
 | nil => intro f a v h; cases h
 | cons e l ih =>
  obtain ⟨k, b, u⟩ := e
  intro f a v h
  simp only [wky] at h
  cases hq : (Nat.beq k f && beqL b a) with
  | true =>
   rw [hq, cond_true] at h
   cases h
   simp only [Bool.and_eq_true] at hq
   have h1 := Nat.eq_of_beq_eq_true hq.1
   have h2 := wfy _ _ hq.2
   rw [h1, h2]
   simp
  | false =>
   rw [hq, cond_false] at h
   exact List.mem_cons_of_mem _ (ih f a v h)
theorem wblb {G : Nat → Option (List Value)} {l : List (FuncId × List Value × Value)} {know : FuncId → Option (List Value → Option Value)} (h : ∀ e ∈ l, wqk P G e.1 e.2.1 e.2.2) (hk : weg P G know) : weg P G (wyeb l know) := by
 intro f g a v hf hg
 unfold wyeb at hf
 cases hq : l.any (fun k => Nat.beq k.1 f) with
 | false => rw [hq, cond_false] at hf; exact hk f g a v hf hg
 | true =>
  rw [hq, cond_true] at hf
  cases hf
  exact h _ (whbb _ _ _ _ hg)
theorem kept_of {w w' : World} (hs : ∀ b : Nat, b < w.heap.size → w'.heap[b]? = w.heap[b]?) (ho : w'.os = w.os) (hp : w'.output = w.output) : w.keptBut w' (fun _ => False) := by
 refine ⟨ho, hp, fun i hi => ?_⟩
 rw [hs i hi]
 cases hq : w.heap[i]? with
 | none => rfl
 | some o => cases o <;> first | exact ⟨rfl, rfl, rfl, fun _ _ => rfl⟩ | exact .inr ⟨rfl, rfl⟩ | rfl
def wly : Option (Out × AH) → Bool
 | some (.val (.bool true), _) => true
 | _ => false
theorem wibb {r : Option (Out × AH)} (h : wly r = true) : ∃ H', r = some (.val (.bool true), H') := by
 unfold wly at h
 split at h
 ·exact ⟨_, rfl⟩
 ·cases h
theorem gok_none (ρ : Ren) : GOK (fun _ => none) ρ := fun _ => .junk
theorem wclb {cfg : Cfg} (wog : weg P cfg.glob cfg.know) (hm : P.follows .mixedOrders = true) {n : Nat} {f : FuncId} (h : wly (den P cfg n (.call f []) AH0) = true) : wqk P cfg.glob f [] (.bool true) := by
 obtain ⟨H', h⟩ := wibb h
 exact wdr wog hm h rfl rfl
theorem whrb {H : Type} {enc : TypeId × Value → H} {f : Func} {s : ChangeSpec} {apart fresh handsOn : Bool} {W W' : World} {args : Array Value} {v : Value} {ds gs : List (DataW H)} {before pa pv : List MemPlace}
  (hW : DataW.Whole enc P f.params.toList s.vars apart W args.toList ds gs before)
  (hres : ∀ (b : Nat) (sp : Nat → Bool) (hd : Bool), DataW.TrodAll enc P W' b sp hd f.resultTypes.toList (v.resultList f.resultTypes.size) (s.fn H (ds ++ gs)).results [])
  (hargs : ∀ sp : Nat → Bool, (∀ p ∈ before, sp p.block = true) → DataW.TrodAll enc P W' 0 sp true f.params.toList args.toList (s.fn H (ds ++ gs)).args pa)
  (hvars : ∀ sp : Nat → Bool, (∀ p ∈ before, sp p.block = true) → DataW.TrodVars enc P W' sp s.vars (s.fn H (ds ++ gs)).vars pv)
  (hps : before = pa ++ pv) (hk : W.keptBut W' (fun _ => False)) : s.post enc P f apart fresh handsOn false W args v W' := by
 have hold : ∀ p ∈ before, (fun b => decide (b < W.heap.size)) p.block = true := fun p hp => by simpa using hW.lt p hp
 exact ⟨ds, gs, before, [], pa, pv, hW, hres _ _ _, hargs _ hold, hvars _ hold, World.keptBut_mono (fun p hp => hp.elim) hk, fun h => by cases h⟩
end
end Go.Den
namespace Go.Den
noncomputable section
@[reducible] def bytesOf (s : ByteArray) : List UInt8 := s.data.toList
@[reducible] def str (l : List UInt8) : Value := .string ⟨⟨l⟩⟩
inductive AK where
 | int (k : IntKind)
 | str
 | bool
def AK.fits : AK → Value → Bool
 | .int k, .int j _ => sameKind j k
 | .str, .string _ => true
 | .bool, .bool _ => true
 | _, _ => false
def wnf : List AK → List Value → Bool
 | [], [] => true
 | k :: r, v :: l => k.fits v && wnf r l
 | _, _ => false
def wew : Value → Value → Bool
 | .int _ a, .int _ b => a == b
 | .string a, .string b => a == b
 | .bool a, .bool b => a == b
 | _, _ => false
def eqL : List Value → List Value → Bool
 | a :: r, b :: s => wew a b && eqL r s
 | _, _ => true
def wmy (rec : TypeId → Option (List AK)) : List Field → Nat → Option (List AK)
 | [], _ => some []
 | f :: r, off => if f.name ≠ "_" ∧ f.offset = off then (match rec f.type with
  | some ks => (match wmy rec r (off + ks.length) with
   | some l => some (ks ++ l)
   | none => none)
  | none => none) else none
def wzn (ks : List AK) : Nat → List AK
 | 0 => []
 | n + 1 => ks ++ wzn ks n
def wfw (P : Program) (t : TypeId) (ks : List AK) : Bool := match wec P t with
 | some i => i.size == ks.length
 | none => false
def wjh (P : Program) : Nat → TypeId → Option (List AK)
 | 0, _ => none
 | d + 1, t => match tyU P t with
  | some (.int k) => some [.int k]
  | some .string => some [.str]
  | some .bool => some [.bool]
  | some (.struct fields) => if P.stoodInHeld t then none else (match wmy (wjh P d) fields.toList 0 with
   | some ks => if wfw P t ks then some ks else none
   | none => none)
  | some (.array len elem) => (match wjh P d elem with
   | some ks => if wfw P elem ks && wfw P t (wzn ks len) then some (wzn ks len) else none
   | none => none)
  | _ => none
inductive RI where
 | ins (i : Ins)
 | int2 (op : BinOp) (k : IntKind) (x y : Operand)
 | shift (op : BinOp) (x y : Operand)
 | conv (k : IntKind) (x : Operand)
 | un (op : UnOp) (x : Operand)
 | eqb (neg : Bool) (x y : Operand)
 | str2 (op : BinOp) (x y : Operand)
 | sidx (x i : Operand)
 | slen (x : Operand)
 | ssl (x : Operand) (lo hi : Option Operand)
 | lenS (x : Operand)
 | slS (size : Nat) (x : Operand) (lo hi mx : Option Operand)
 | look (kt : Nat) (zero : Value) (ok : Bool) (m k : Operand)
 | lenM (x : Operand)
 | b2s (x : Operand)
 | topu (x : Operand)
 | frpu (u : TypeId) (x : Operand)
 | eqc (neg : Bool) (ks : List AK) (x y : Operand)
 | mm (mx : Bool) (x : Operand) (r : List Operand)
 | bad
structure RO where
 dst : Option Tmp
 guard : Option (Option Tmp × Bool)
 ins : RI
def wav (op : BinOp) (k : IntKind) (a b : Int) : Option Int := match op with
 | .and => some (k.wrap (BitVec.ofInt k.bits a &&& BitVec.ofInt k.bits b).toNat)
 | .or => some (k.wrap (BitVec.ofInt k.bits a ||| BitVec.ofInt k.bits b).toNat)
 | .xor => some (k.wrap (BitVec.ofInt k.bits a ^^^ BitVec.ofInt k.bits b).toNat)
 | .andNot => some (k.wrap (BitVec.ofInt k.bits a &&& ~~~(BitVec.ofInt k.bits b)).toNat)
 | _ => none
def intR (op : BinOp) (k : IntKind) (a b : Int) : Option Value := match op with
 | .add => some (.int k (k.wrap (a + b)))
 | .sub => some (.int k (k.wrap (a - b)))
 | .mul => some (.int k (k.wrap (a * b)))
 | .quo => if b = 0 then none else some (.int k (k.wrap (a.tdiv b)))
 | .rem => if b = 0 then none else some (.int k (a.tmod b))
 | .eql => some (.bool (a == b))
 | .neq => some (.bool (a != b))
 | .lss => some (.bool (a < b))
 | .leq => some (.bool (a ≤ b))
 | .gtr => some (.bool (b < a))
 | .geq => some (.bool (b ≤ a))
 | .and | .or | .xor | .andNot => (wav op k a b).map (.int k)
 | _ => none
def wkn (op : BinOp) (k : IntKind) (a b : Int) : Option Value := if b < 0 then none else match op with
 | .shl => some (.int k (k.wrap (a * 2 ^ (min b.toNat k.bits))))
 | .shr => some (.int k (a.fdiv (2 ^ (min b.toNat k.bits))))
 | _ => none
def wig (op : BinOp) (k : IntKind) (x y : Value) : ARes := match x, y with
 | .int j a, .int j' b => if j = k ∧ j' = k then valO (intR op k a b) else .none
 | _, _ => .none
def wln (op : BinOp) (x y : Value) : ARes := match x, y with
 | .int j a, .int _ b => valO (wkn op j a b)
 | _, _ => .none
def wzeb (k : IntKind) (x : Value) : ARes := match x with
 | .int _ n => val (.int k (k.wrap n))
 | _ => .none
def unV (op : UnOp) (x : Value) : ARes := match op, x with
 | .not, .bool b => val (.bool (!b))
 | .neg, .int k n => val (.int k (k.wrap (0 - n)))
 | .xor, .int k n => valO ((wav .xor k (if k.signed then -1 else k.max) n).map (.int k))
 | _, _ => .none
def eqbV (neg : Bool) (x y : Value) : ARes := match x, y with
 | .bool a, .bool b => val (.bool (if neg then !(a == b) else (a == b)))
 | _, _ => .none
def strR (op : BinOp) (a b : ByteArray) : Option Value := match op with
 | .add => if ((a.size + b.size : Nat) : Int) > IntKind.i64.max then none else some (.string (a ++ b))
 | .eql => some (.bool (a.toList == b.toList))
 | .neq => some (.bool (!(a.toList == b.toList)))
 | .lss => some (.bool (Op.bytesLess a.toList b.toList))
 | .leq => some (.bool (Op.bytesLess a.toList b.toList || a.toList == b.toList))
 | .gtr => some (.bool (!(Op.bytesLess a.toList b.toList || a.toList == b.toList)))
 | .geq => some (.bool (!(Op.bytesLess a.toList b.toList)))
 | _ => none
def wny (op : BinOp) (x y : Value) : ARes := match x, y with
 | .string a, .string b => valO (strR op a b)
 | _, _ => .none
def woy (x i : Value) : ARes := match x, i with
 | .string s, .int _ n => if 0 ≤ n then (match (bytesOf s)[n.toNat]? with | some b => val (.int .u8 b.toNat) | none => .none) else .none
 | _, _ => .none
def wafb (x : Value) : ARes := match x with
 | .string s => val (.int .i64 (bytesOf s).length)
 | _ => .none
def sslV (x : Value) (lo hi : Option Value) : ARes := match x with
 | .string s => match optInt 0 lo, optInt (bytesOf s).length hi with
  | some l, some h => if 0 ≤ l ∧ l ≤ h ∧ h ≤ (bytesOf s).length then val (str (((bytesOf s).take h.toNat).drop l.toNat)) else .none
  | _, _ => .none
 | _ => .none
where optInt (d : Int) : Option Value → Option Int
 | none => some d
 | some (.int _ n) => some n
 | _ => none
def lenSF : Option (Nat × List Value) → ARes
 | some p => val (.int .i64 p.1)
 | none => .none
def wpy (x : Value) : ARes := match x with
 | .slice _ n _ => val (.int .i64 n)
 | x => lenSF (asFL x)
def slFR (e : Env) (size : Nat) (lo hi mx : Option Operand) : Option (Nat × List Value) → ARes
 | some p => match wag e 0 lo, wag e p.1 hi with
  | some l, some h => slF2 size p e hi mx l h
  | _, _ => .none
 | none => .none
def slSR (e : Env) (H : AH) (size : Nat) (x : Value) (lo hi mx : Option Operand) : ARes :=
 match x with
 | .slice (some a) len c => match wag e 0 lo, wag e len hi with
  | some l, some h => match mx with
   | none => wmz H size a len c l h
   | some y => match wce (evl e y), hi with
    | some m, some _ => wlv H size a len c l h m
    | _, _ => .none
  | _, _ => .none
 | _ => slFR e size lo hi mx (asFL x)
def wjbb (P : Program) (H : AH) (kt : Nat) (zero : Value) (ok : Bool) (m k : Value) : ARes :=
 match m with
 | .map (some r) => match H.get r with
  | some (.map es) => bif flat k then wxp ok zero (wjr P es.isEmpty kt k es) else .none
  | _ => .none
 | _ => .none
def wdlb (H : AH) (x : Value) : ARes :=
 match x with
 | .map (some r) => match H.get r with
  | some (.map es) => val (.int .i64 es.length)
  | _ => .none
 | _ => .none
def b2sFR : Option (Nat × List Value) → ARes
 | some p => bif Nat.ble p.1 p.2.length then (bif (p.2.take p.1).all isU8 then val (.string ⟨((p.2.take p.1).map toU8).toArray⟩) else .none) else .none
 | none => .none
def b2sR (H : AH) (x : Value) : ARes :=
 match x with
 | .slice none 0 0 => val (.string ⟨#[]⟩)
 | .slice (some _) 0 _ => val (.string ⟨#[]⟩)
 | .slice (some a) len c => match weh H 1 len (.slice (some a) len c) with
  | some l => bif l.all isU8 then val (.string ⟨(l.map toU8).toArray⟩) else .none
  | none => .none
 | _ => b2sFR (asFL x)
def topuR (H : AH) : Value → ARes
 | .pointer (some a) => match wtf H a 1 with
  | some _ => val (.pointer (some a))
  | none => .none
 | _ => .none
def frpuR (P : Program) (H : AH) (u : TypeId) : Value → ARes
 | .pointer (some a) => match wtf H a 1 with
  | some b => bif rowOk P b a.off u then val (.pointer (some a)) else .none
  | none => .none
 | _ => .none
def eqcV (neg : Bool) (ks : List AK) (x y : Value) : ARes := match x, y with
 | .agg ⟨xs⟩, .agg ⟨ys⟩ => if wnf ks xs && wnf ks ys then val (.bool (if neg then !(eqL xs ys) else eqL xs ys)) else .none
 | _, _ => .none
def mmI (mx : Bool) (k : IntKind) : List Value → Int → Option Value
 | [], x => some (.int k x)
 | .int _ y :: r, x => mmI mx k r (if mx then (if y > x then y else x) else (if y < x then y else x))
 | _, _ => none
def mmV (mx : Bool) (x : Value) (r : List Value) : ARes := match x with
 | .int k n => valO (mmI mx k r n)
 | _ => .none
def riA (P : Program) (e : Env) (H : AH) : RI → ARes
 | .ins i => insA P e H H.n i
 | .int2 op k x y => wig op k (evl e x) (evl e y)
 | .shift op x y => wln op (evl e x) (evl e y)
 | .conv k x => wzeb k (evl e x)
 | .un op x => unV op (evl e x)
 | .eqb neg x y => eqbV neg (evl e x) (evl e y)
 | .str2 op x y => wny op (evl e x) (evl e y)
 | .sidx x i => woy (evl e x) (evl e i)
 | .slen x => wafb (evl e x)
 | .ssl x lo hi => sslV (evl e x) (lo.map (evl e)) (hi.map (evl e))
 | .lenS x => wpy (evl e x)
 | .slS size x lo hi mx => slSR e H size (evl e x) lo hi mx
 | .look kt zero ok m k => wjbb P H kt zero ok (evl e m) (evl e k)
 | .lenM x => wdlb H (evl e x)
 | .b2s x => b2sR H (evl e x)
 | .topu x => topuR H (evl e x)
 | .frpu u x => frpuR P H u (evl e x)
 | .eqc neg ks x y => eqcV neg ks (evl e x) (evl e y)
 | .mm mx x r => mmV mx (evl e x) (evls e r)
 | .bad => .none
def isSh : BinOp → Bool
 | .shl | .shr => true
 | _ => false
def trInt (P : Program) (op : BinOp) (t : TypeId) (x y : Operand) : RI :=
 if isSh op then .shift op x y else match tyU P t with
 | some (.int k) => .int2 op k x y
 | _ => .bad
def trEq (op : BinOp) (ks : Option (List AK)) (x y : Operand) : RI := match op, ks with
 | .eql, some ks => .eqc false ks x y
 | .neq, some ks => .eqc true ks x y
 | _, _ => .bad
def wirb (P : Program) (op : BinOp) (t : TypeId) (x y : Operand) : RI := match tyU P t with
 | some .string => .str2 op x y
 | some .bool => (match op with
  | .eql => .eqb false x y
  | .neq => .eqb true x y
  | _ => .bad)
 | some (.struct _) => bif P.eqGuardType P.depth t then .bad else trEq op (wjh P 12 t) x y
 | some (.array _ _) => bif P.eqGuardType P.depth t then .bad else trEq op (wjh P 12 t) x y
 | _ => .bad
def wkbb (P : Program) (src dst : TypeId) (x : Operand) : RI := match tyU P src, tyU P dst with
 | some (.int _), some (.int k) => .conv k x
 | _, _ => .bad
def wbfb (P : Program) (o : Oper) : RI := match o.op with
 | .binOp op t x y _ => wirb P op t x y
 | .unOp op _ x => .un op x
 | .convert src dst x => wkbb P src dst x
 | .index t x j => (match tyU P t with | some .string => .sidx x j | _ => .bad)
 | .slice t x lo hi none => (match tyU P t with | some .string => .ssl x lo hi | _ => .bad)
 | .call c => (match c.callee, c.args.toList, c.argTypes[0]? with
  | .builtin .len, [x], some t => (match tyU P t with | some .string => .slen x | _ => .bad)
  | .builtin .max, x :: r, _ => .mm true x r
  | .builtin .min, x :: r, _ => .mm false x r
  | _, _, _ => .bad)
 | _ => .bad
def sameOp (a b : BinOp) : Bool := a == b
def wnq : Operand → Operand → Bool
 | .tmp a, .tmp b => Nat.beq a b
 | .const (.int k a), .const (.int j b) => sameKind k j && eqF a b
 | _, _ => false
def wjrb (P : Program) (o : Oper) (x : Operand) : Bool := match o.op with
 | .call c => (match c.callee, c.args.toList, c.argTypes[0]? with
  | .builtin .len, [y], some t => (match tyU P t with | some (.slice _) => wnq x y | _ => false)
  | _, _, _ => false)
 | _ => false
def isB2S (P : Program) (o : Oper) (x : Operand) : Bool := match o.op with
 | .convert src dst y => (match tyU P src, tyU P dst with
  | some (.slice e), some .string => (match tyU P e with | some (.int .u8) => wnq x y | _ => false)
  | _, _ => false)
 | _ => false
def wll (P : Program) (i : Ins) : RI := match i with
 | .int2 op x y o => (match o.op with
  | .binOp op' t x' y' _ => if sameOp op op' && (wnq x x' && wnq y y') then trInt P op t x y else .bad
  | _ => .bad)
 | .gen o => wbfb P o
 | .len x o => if wjrb P o x then .lenS x else .bad
 | .slS size x lo hi mx _ => .slS size x lo hi mx
 | .look kt zero ok m k _ => .look kt zero ok m k
 | .lenM x _ => .lenM x
 | .b2s x o => if isB2S P o x then .b2s x else .bad
 | .topu x _ => .topu x
 | .frpu u x _ => .frpu u x
 | i => .ins i
def trI (P : Program) : Option Ins → RI
 | some i => wll P i
 | none => .bad
def trO (P : Program) (ops : Array Oper) (o : Oper) : RO := ⟨o.dst, woc ops o.guard, trI P (comp P o)⟩
inductive RC where
 | skip
 | ret
 | exit (id : Nat)
 | bad
 | ops (l : List RO)
 | draw (before : Array Nat) (l : List RO)
 | seq (a b : RC)
 | cond (c : Operand) (a b : RC)
 | block (id : Nat) (a : RC)
 | loop (c : Code)
def wqy (P : Program) (ops : Array Oper) : List Oper → List RO
 | [] => []
 | o :: r => trO P ops o :: wqy P ops r
def trC (P : Program) : Code → RC
 | .skip => .skip
 | .label _ => .skip
 | .ret => .ret
 | .exit id => .exit id
 | .region _ ops draw => if draw then (if wxo ops then .draw (Region.before ops) (wqy P ops ops.toList) else .bad) else .ops (wqy P ops ops.toList)
 | .seq a b => .seq (trC P a) (trC P b)
 | .cond c a b => if wic c then .cond c (trC P a) (trC P b) else .bad
 | .block id c => .block id (trC P c)
 | .loop c => .loop c
 | _ => .bad
structure RF where
 n : Nat
 code : RC
 res : List CRes
def trF (P : Program) (f : FuncId) : Option RF := match P.funcs[f]? with
 | some fn => match fn.body with
  | some c => some ⟨fn.ntmps, trC P c, fn.results.toList.map (wzl P)⟩
  | none => none
 | none => none
def wao : Code → List Code
 | .seq a b => wao a ++ wao b
 | .cond _ a b => wao a ++ wao b
 | .block _ c => wao c
 | .loop c => c :: wao c
 | _ => []
def lp (P : Program) (f : FuncId) (i : Nat) : Code := match P.funcs[f]? with
 | some fn => match fn.body with
  | some c => (match (wao c)[i]? with
   | some c => c
   | none => .skip)
  | none => .skip
 | none => .skip
def stepR (P : Program) (cs : wzb) (e : Env) (H : AH) : RI → Did
 | .ins i => wcg cs (wnb e i) H (insA P e H H.n i)
 | r => wcg cs [] H (riA P e H r)
def opsR {R : Type} (P : Program) (cs : wzb) (K : KR R) : List RO → KR R
 | [], e, H => K e H
 | o :: r, e, H => opsK (didG (gsel o.guard e) (stepR P cs e H o.ins) H) o.dst e (opsR P cs K r)
def wbb (e : Env) : RI → List Nat
 | .ins i => bif looks (some i) then wxb e i else []
 | .slS _ x _ _ _ => idOf (evl e x)
 | .look _ _ _ m _ => idOf (evl e m)
 | .lenM x => idOf (evl e x)
 | .b2s x => idOf (evl e x)
 | .topu x => idOf (evl e x)
 | .frpu _ x => idOf (evl e x)
 | _ => []
def tiR (g : Option Bool) (i : Nat) (ri : RI) (e : Env) (H : AH) (nb : Option ABlk) (eff : Bool) (H' : AH) (wr : List Nat) (acc : List Ti) : List Ti := match g with
 | some true => (bif eff then ⟨i, [], some (wr, H.n, H'.n)⟩ else ⟨i, tiRd nb H.n (wbb e ri), none⟩) :: acc
 | _ => acc
def wcj {R : Type} (before : Array Nat) (acc : List Ti) (K : KR R) (e : Env) (H : AH) : Option R :=
 bif wqf before acc.reverse && wji before acc then K e H else none
def wbv {R : Type} (d : Did) (o : RO) (i : Nat) (acc : List Ti) (e : Env) (H : AH) (K : Nat → List Ti → KR R) : Option R :=
 match d with
 | .did v nb eff H' wr => K (i + 1) (tiR (gsel o.guard e) i o.ins e H nb eff H' wr acc) (e.put o.dst v) H'
 | .none => none
def wod {R : Type} (P : Program) (cs : wzb) (before : Array Nat) (K : KR R) : List RO → Nat → List Ti → KR R
 | [], _, acc, e, H => wcj before acc K e H
 | o :: r, i, acc, e, H => wbv (didG (gsel o.guard e) (stepR P cs e H o.ins) H) o i acc e H (wod P cs before K r)
def wxe {R : Type} (P : Program) (cfg : Cfg) (f : FuncId) (p : Nat) (rec : Rec) : RC → KC R → KR R
 | .skip, K, e, H => K .normal e H
 | .ret, K, e, H => K .ret e H
 | .exit id, K, e, H => K (.exit id) e H
 | .bad, _, _, _ => none
 | .ops l, K, e, H => opsR P (callS P cfg rec) (K .normal) l e H
 | .draw before l, K, e, H => wod P (callS P cfg rec) before (K .normal) l 0 [] e H
 | .seq a b, K, e, H => wxe P cfg f p rec a (seqK (wxe P cfg f p rec b K) K) e H
 | .cond c a b, K, e, H => wqab (evl e c) (wxe P cfg f p rec a K e H) (wxe P cfg f p rec b K e H)
 | .block id c, K, e, H => wxe P cfg f p rec c (wap id K) e H
 | .loop c, K, e, H => wxu rec f p c e H K (cfg.live f (wqc c))
def resR (H : AH) (e : Env) : List CRes → Option (List Value)
 | [] => some []
 | x :: r => match resA H e x, resR H e r with
  | some v, some l => some (v :: l)
  | _, _ => none
end
end Go.Den
namespace Go.Den
noncomputable section
variable {P : Program}
theorem web {α β : Type} (s : Sem α) (f : α → Sem β) : wo P (s.bind f) = (wo P s).bind fun a => wo P (f a) := wib s f
theorem wdj {α : Type} (a : α) : wo P (pure a : Sem α) = some a := rfl
theorem wkp (t : TypeId) {d : TypeDesc} (h : tyU P t = some d) : wo P (underlying t) = some d := by
  unfold tyU at h
  unfold underlying
  show wo P ((program).bind fun p => _) = _
  rw [web]
  simp only [program, wo, Option.bind_some, h]
  rfl
theorem wrf {e : Env} {o : Oper} (hf : o.op.operands.toList.all (fun x => flat (evl e x)) = true) {v : Value} (h : wo P (execOp (evl e) o) = some (.value v)) (hv : flat v = true) : genA P e o = val v := by
  unfold genA
  rw [hf, cond_true, h]
  simp only [hv, cond_true]
theorem wlp (e : Env) (dst : Option Tmp) (op : BinOp) (t : TypeId) (x y : Operand) (b : TypeId) (type : TypeId) (pos : String) (after : Array Edge) (guard : Option (Nat × Bool)) :
    wo P (execOp (evl e) ⟨dst, .binOp op t x y b, type, pos, after, guard⟩) = (wo P (eqGuard op t x y (evl e x) (evl e y))).bind fun _ => (wo P (binOp op t (evl e x) (evl e y))).map Next.value := by
  show wo P (((eqGuard op t x y (evl e x) (evl e y)).bind fun _ => binOp op t (evl e x) (evl e y)).bind fun v => Sem.pure (Next.value v)) = _
  rw [web, web]
  cases wo P (eqGuard op t x y (evl e x) (evl e y)) with
  | none => rfl
  | some u => cases wo P (binOp op t (evl e x) (evl e y)) <;> rfl
theorem wlbb (op : BinOp) (t : TypeId) (x y : Operand) (j k : IntKind) (a b : Int) : wo P (eqGuard op t x y (.int j a) (.int k b)) = some () := by
  unfold eqGuard
  cases op <;> rfl
theorem wkrb (op : BinOp) (t : TypeId) (x y : Operand) (a b : ByteArray) : wo P (eqGuard op t x y (.string a) (.string b)) = some () := by
  unfold eqGuard
  cases op <;> rfl
theorem welb (op : BinOp) (t : TypeId) (x y : Operand) (a b : Bool) : wo P (eqGuard op t x y (.bool a) (.bool b)) = some () := by
  unfold eqGuard
  cases op <;> rfl
theorem wgib (op : BinOp) (hop : isSh op = false) (t : TypeId) (k : IntKind) (a b : Int) : wo P (binOp op t (.int k a) (.int k b)) = intR op k a b := by
  cases op <;> first
    | (exact absurd hop (by decide))
    | (simp only [binOp, ne_eq, not_true_eq_false, if_false, Op.intArith, Op.intBits, Op.intCmp, intR, wav, Option.map_some]; rfl)
    | (simp only [binOp, ne_eq, not_true_eq_false, if_false, Op.intDiv, intR]; split <;> rfl)
theorem wgw (op : BinOp) (hop : isSh op = true) (t : TypeId) (j k : IntKind) (a b : Int) : wo P (binOp op t (.int j a) (.int k b)) = wkn op j a b := by
  cases op <;> first
    | (exact absurd hop (by decide))
    | (simp only [binOp, Op.shift, wkn]; split <;> rfl)
theorem pure_str (op : BinOp) (t : TypeId) (a b : ByteArray) : wo P (binOp op t (.string a) (.string b)) = strR op a b := by
  cases op <;> first
    | (simp only [binOp, Op.stringOp, strR]; rfl)
    | (simp only [binOp, Op.stringOp, strR]; split <;> rfl)
theorem flat_int {op : BinOp} {k : IntKind} {a b : Int} {v : Value} (h : intR op k a b = some v) : flat v = true := by
  unfold intR at h
  cases op <;> simp only at h <;> first
    | (cases h; rfl)
    | (split at h <;> first | (cases h; rfl) | cases h)
    | (simp only [wav, Option.map_some] at h; cases h; rfl)
    | cases h
theorem wflb {op : BinOp} {k : IntKind} {a b : Int} {v : Value} (h : wkn op k a b = some v) : flat v = true := by
  unfold wkn at h
  split at h
  · cases h
  · cases op <;> simp only at h <;> first | (cases h; rfl) | cases h
theorem flat_str {op : BinOp} {a b : ByteArray} {v : Value} (h : strR op a b = some v) : flat v = true := by
  unfold strR at h
  cases op <;> simp only at h <;> first
    | (cases h; rfl)
    | (split at h <;> first | (cases h; rfl) | cases h)
    | cases h
theorem intsF_eq {op : BinOp} {j k : IntKind} {a b : Int} {v : Value} (hop : isSh op = false) (h : wbx op j k a b = some v) : j = k ∧ intR op k a b = some v := by
  unfold wbx at h
  have h0 : wwp op = false := by revert hop; cases op <;> decide
  rw [h0, cond_false] at h
  cases hs : sameKind j k with
  | false => rw [hs, cond_false] at h; cases h
  | true =>
    rw [hs, cond_true] at h
    have hjk := wgi hs
    subst hjk
    refine ⟨rfl, ?_⟩
    have h1 := wmhb (P := default) h0 h 0 (default : World)
    cases hq : intR op j a b with
    | none =>
      exfalso
      cases op <;> first
        | (exact absurd hop (by decide))
        | (simp only [intR, wav, Option.map_some, reduceCtorEq] at hq; done)
        | (simp only [intF] at h; cases h; done)
        | (simp only [intR, Option.map_eq_none_iff, wav, reduceCtorEq] at hq; done)
        | (simp only [intR] at hq
           split at hq
           · rename_i hb
             subst hb
             simp only [intF] at h
             cases h
           · cases hq)
    | some v' =>
      have h2 : wo default (binOp op 0 (.int j a) (.int j b)) = some v' := by rw [wgib op hop, hq]
      have h3 := wvg _ _ h2 (default : World)
      rw [h1] at h3
      cases h3
      rfl
theorem shF_eq {op : BinOp} {j k : IntKind} {a b : Int} {v : Value} (hop : isSh op = true) (h : wbx op j k a b = some v) : wkn op j a b = some v := by
  unfold wbx at h
  have h0 : wwp op = true := by revert hop; cases op <;> decide
  rw [h0, cond_true] at h
  have h1 := wmpb (P := default) (k := k) h 0 (default : World)
  cases hq : wkn op j a b with
  | none =>
    exfalso
    unfold shF at h
    split at h
    · rename_i a b
      cases hb : Nat.blt b j.bits with
      | false => rw [hb, cond_false] at h; cases h
      | true =>
        rw [hb, cond_true] at h
        have : ¬ (Int.ofNat b < 0) := by simp
        unfold wkn at hq
        rw [if_neg this] at hq
        cases op <;> first | (exact absurd hop (by decide)) | (simp only [reduceCtorEq] at hq)
    · cases h
  | some v' =>
    have h2 : wo default (binOp op 0 (.int j a) (.int k b)) = some v' := by rw [wgw op hop, hq]
    have h3 := wvg _ _ h2 (default : World)
    rw [h1] at h3
    cases h3
    rfl
end
end Go.Den
namespace Go.Den
noncomputable section
variable {P : Program}
theorem wkh (t : TypeId) {d : TypeDesc} (h : tyU P t = some d) {α : Type} (f : TypeDesc → Sem α) : wo P ((underlying t).bind f) = wo P (f d) := by
 rw [web, wkp t h, Option.bind_some]
theorem whw {t : TypeId} {d : TypeDesc} (h : tyU P t = some d) : wo P (isAgg t) = some (wjf d) := by
 show wo P ((underlying t).bind fun d => _) = _
 rw [wkh t h]
 cases d <;> rfl
theorem wlrb {t : TypeId} {i : TypeInfo} (h : wec P t = some i) : wo P (typeInfo t) = some i := by
 unfold wec at h
 unfold typeInfo
 show wo P ((program).bind fun p => _) = _
 rw [web]
 simp only [program, wo, Option.bind_some, h]
 rfl
theorem wmbb {t : TypeId} {i : TypeInfo} (h : wec P t = some i) : wo P (sizeOf t) = some i.size := by
 show wo P ((typeInfo t).bind fun i => Sem.pure i.size) = _
 rw [web, wlrb h]
 rfl
theorem wglb {t : TypeId} {d : TypeDesc} (ht : tyU P t = some d) (hd : wjf d = false) {cs : Array Value} {off : Nat} {v : Value} (h : cs[off]? = some v) : wo P (part t cs off) = some v := by
 unfold part
 rw [wib, whw ht, Option.bind_some, hd]
 simp only [Bool.false_eq_true, if_false, h]
 rfl
theorem whlb {t : TypeId} {d : TypeDesc} {i : TypeInfo} (ht : tyU P t = some d) (hd : wjf d = true) (hi : wec P t = some i) {cs : Array Value} {off : Nat} : wo P (part t cs off) = some (.agg (cs.extract off (off + i.size))) := by
 unfold part
 rw [wib, whw ht, Option.bind_some, hd]
 simp only [if_true]
 rw [wib, wmbb hi]
 rfl
def Rep (P : Program) (t : TypeId) (xs : List Value) (v : Value) : Prop := ∃ d, tyU P t = some d ∧ ((wjf d = true ∧ v = .agg ⟨xs⟩) ∨ (wjf d = false ∧ xs = [v]))
theorem wej : ∀ {ks : List AK} {xs : List Value}, wnf ks xs = true → ks.length = xs.length := by
 intro ks
 induction ks with
 | nil => intro xs h; cases xs with | nil => rfl | cons v l => cases h
 | cons k r ih =>
  intro xs h
  cases xs with
  | nil => cases h
  | cons v l =>
   simp only [wnf, Bool.and_eq_true] at h
   simp only [List.length_cons, ih h.2]
theorem wgm : ∀ {a b : List AK} {xs : List Value}, wnf (a ++ b) xs = true → wnf a (xs.take a.length) = true ∧ wnf b (xs.drop a.length) = true := by
 intro a
 induction a with
 | nil => intro b xs h; exact ⟨rfl, h⟩
 | cons k r ih =>
  intro b xs h
  cases xs with
  | nil => cases h
  | cons v l =>
   simp only [List.cons_append, wnf, Bool.and_eq_true] at h
   obtain ⟨h1, h2⟩ := ih h.2
   exact ⟨by simp only [List.length_cons, List.take_succ_cons, wnf, h.1, h1, Bool.and_self], by simpa using h2⟩
theorem wnbb : ∀ (n : Nat) (xs ys : List Value), xs.length = ys.length → eqL xs ys = (eqL (xs.take n) (ys.take n) && eqL (xs.drop n) (ys.drop n)) := by
 intro n
 induction n with
 | zero => intro xs ys _; simp [eqL]
 | succ n ih =>
  intro xs ys h
  cases xs with
  | nil => cases ys with | nil => rfl | cons b s => cases h
  | cons a r =>
   cases ys with
   | nil => cases h
   | cons b s =>
    simp only [List.length_cons, Nat.add_right_cancel_iff] at h
    simp only [List.take_succ_cons, List.drop_succ_cons, eqL, ih r s h, Bool.and_assoc]
theorem wwt {t : TypeId} {ks : List AK} (h : wfw P t ks = true) : ∃ i, wec P t = some i ∧ i.size = ks.length := by
 unfold wfw at h
 split at h
 ·rename_i i hi; exact ⟨i, hi, by simpa using h⟩
 ·cases h
theorem wcfb {d : Nat} {t : TypeId} {ks : List AK} (h : wjh P d t = some ks) : ∃ dsc, tyU P t = some dsc ∧ ((wjf dsc = false ∧ ∃ k, ks = [k]) ∨ (wjf dsc = true ∧ wfw P t ks = true)) := by
 cases d with
 | zero => cases h
 | succ d =>
  unfold wjh at h
  split at h
  ·rename_i hu; cases h; exact ⟨_, hu, .inl ⟨rfl, _, rfl⟩⟩
  ·rename_i hu; cases h; exact ⟨_, hu, .inl ⟨rfl, _, rfl⟩⟩
  ·rename_i hu; cases h; exact ⟨_, hu, .inl ⟨rfl, _, rfl⟩⟩
  ·rename_i hu
   split at h
   ·cases h
   ·split at h
    ·split at h
     ·rename_i hs; cases h; exact ⟨_, hu, .inr ⟨rfl, hs⟩⟩
     ·cases h
    ·cases h
  ·rename_i hu
   split at h
   ·split at h
    ·rename_i hs; cases h; simp only [Bool.and_eq_true] at hs; exact ⟨_, hu, .inr ⟨rfl, hs.2⟩⟩
    ·cases h
   ·cases h
  ·cases h
theorem wzr {d : Nat} {t : TypeId} {ks : List AK} (h : wjh P d t = some ks) {xs : List Value} {off : Nat} (hl : off + ks.length ≤ xs.length) : ∃ v, wo P (part t ⟨xs⟩ off) = some v ∧ Rep P t ((xs.drop off).take ks.length) v := by
 obtain ⟨dsc, hu, ⟨ha, k, rfl⟩ | ⟨ha, hs⟩⟩ := wcfb h
 ·simp only [List.length_cons, List.length_nil] at hl
  have h1 : (⟨xs⟩ : Array Value)[off]? = some xs[off] := by simp
  refine ⟨xs[off], wglb hu ha h1, dsc, hu, .inr ⟨ha, ?_⟩⟩
  rw [List.drop_eq_getElem_cons (by omega)]
  rfl
 ·obtain ⟨i, hi, hsz⟩ := wwt hs
  refine ⟨_, whlb hu ha hi, dsc, hu, .inl ⟨ha, ?_⟩⟩
  congr 1
  apply Array.ext'
  rw [Array.toList_extract, List.extract_eq_take_drop, hsz]
  simp
theorem loop_all {α : Type} (p : α → Bool) (body : α → Option Bool × Unit → Sem (ForInStep (Option Bool × Unit))) : ∀ (l : List α), (∀ f ∈ l, wo P (body f (none, ())) = some (if p f then .yield (none, ()) else .done (some false, ()))) →
  wo P (forIn l ((none, ()) : Option Bool × Unit) body) = some (if l.all p then (none, ()) else (some false, ())) := by
 intro l
 induction l with
 | nil => intro _; rfl
 | cons a l ih =>
  intro h
  rw [List.forIn_cons, wib, h a (by simp), Option.bind_some]
  cases hp : p a with
  | false => simp [hp]; rfl
  | true =>
   simp only [if_true, List.all_cons, hp, Bool.true_and]
   exact ih fun f hf => h f (List.mem_cons_of_mem _ hf)
theorem wry {d : Nat} {t : TypeId} {ks : List AK} (h : wjh P (d + 1) t = some ks) {xs ys : List Value} {x y : Value} (hx : Rep P t xs x) (hy : Rep P t ys y) {dsc : TypeDesc} (hu : tyU P t = some dsc) (ha : wjf dsc = false) : xs = [x] ∧ ys = [y] := by
 obtain ⟨d1, hu1, h1⟩ := hx
 obtain ⟨d2, hu2, h2⟩ := hy
 rw [hu] at hu1 hu2
 cases hu1; cases hu2
 rcases h1 with ⟨h1, _⟩ | ⟨_, h1⟩
 ·rw [ha] at h1; cases h1
 ·rcases h2 with ⟨h2, _⟩ | ⟨_, h2⟩
  ·rw [ha] at h2; cases h2
  ·exact ⟨h1, h2⟩
theorem wmrb {t : TypeId} {xs ys : List Value} {x y : Value} (hx : Rep P t xs x) (hy : Rep P t ys y) {dsc : TypeDesc} (hu : tyU P t = some dsc) (ha : wjf dsc = true) : x = .agg ⟨xs⟩ ∧ y = .agg ⟨ys⟩ := by
 obtain ⟨d1, hu1, h1⟩ := hx
 obtain ⟨d2, hu2, h2⟩ := hy
 rw [hu] at hu1 hu2
 cases hu1; cases hu2
 rcases h1 with ⟨_, h1⟩ | ⟨h1, _⟩
 ·rcases h2 with ⟨_, h2⟩ | ⟨h2, _⟩
  ·exact ⟨h1, h2⟩
  ·rw [ha] at h2; cases h2
 ·rw [ha] at h1; cases h1
theorem wcv (ks : List AK) (n : Nat) : (wzn ks n).length = n * ks.length := by
 induction n with
 | zero => simp [wzn]
 | succ n ih => rw [wzn, List.length_append, ih, Nat.succ_mul]; omega
theorem eqL_rows (k : Nat) : ∀ (n s : Nat) (xs ys : List Value), xs.length = (s + n) * k → ys.length = (s + n) * k → eqL (xs.drop (s * k)) (ys.drop (s * k)) = (List.range' s n).all fun i => eqL ((xs.drop (i * k)).take k) ((ys.drop (i * k)).take k) := by
 intro n
 induction n with
 | zero =>
  intro s xs ys hx hy
  rw [List.drop_of_length_le (by rw [hx]; simp)]
  rfl
 | succ n ih =>
  intro s xs ys hx hy
  rw [List.range'_succ, List.all_cons, wnbb k _ _ (by rw [List.length_drop, List.length_drop, hx, hy]), List.drop_drop, List.drop_drop]
  congr 1
  have e : s * k + k = (s + 1) * k := by rw [Nat.succ_mul]
  rw [e]
  exact ih (s + 1) xs ys (by rw [hx]; congr 1; omega) (by rw [hy]; congr 1; omega)
theorem wobb {ks : List AK} : ∀ (n : Nat) {xs : List Value}, wnf (wzn ks n) xs = true → ∀ i, i < n → wnf ks ((xs.drop (i * ks.length)).take ks.length) = true := by
 intro n
 induction n with
 | zero => intro xs _ i hi; omega
 | succ n ih =>
  intro xs h i hi
  obtain ⟨h1, h2⟩ := wgm h
  cases i with
  | zero => simpa using h1
  | succ i =>
   have := ih h2 i (by omega)
   rw [List.drop_drop] at this
   rwa [show (i + 1) * ks.length = ks.length + i * ks.length by rw [Nat.succ_mul]; omega]
theorem fits_int {k : IntKind} {v : Value} (h : AK.fits (.int k) v = true) : ∃ n, v = .int k n := by
 unfold AK.fits at h
 split at h
 ·rename_i e; cases e; exact ⟨_, by rw [wgi h]⟩
 ·rename_i e; cases e
 ·rename_i e; cases e
 ·cases h
theorem wsy {v : Value} (h : AK.fits .str v = true) : ∃ s, v = .string s := by
 unfold AK.fits at h
 split at h
 ·rename_i e; cases e
 ·exact ⟨_, rfl⟩
 ·rename_i e; cases e
 ·cases h
theorem fits_bool {v : Value} (h : AK.fits .bool v = true) : ∃ b, v = .bool b := by
 unfold AK.fits at h
 split at h
 ·rename_i e; cases e
 ·rename_i e; cases e
 ·exact ⟨_, rfl⟩
 ·cases h
theorem wnrb {d m : Nat} (ih : ∀ (t : TypeId) (ks : List AK), wjh P d t = some ks → ∀ (xs ys : List Value) (x y : Value), Rep P t xs x → Rep P t ys y → wnf ks xs = true → wnf ks ys = true → wo P (Op.equalIn m t x y) = some (eqL xs ys)) :
  ∀ (fs : List Field) (off : Nat) (ks : List AK), wmy (wjh P d) fs off = some ks → ∀ (xs ys : List Value), wnf ks (xs.drop off) = true → wnf ks (ys.drop off) = true → off ≤ xs.length → off ≤ ys.length →
  wo P (forIn fs ((none, ()) : Option Bool × Unit) fun f _ => (if f.name ≠ "_" then (do
   let a ← part f.type ⟨xs⟩ f.offset
   let b ← part f.type ⟨ys⟩ f.offset
   let r ← Op.equalIn m f.type a b
   if (!r) = true then pure (ForInStep.done (some false, ())) else pure (ForInStep.yield (none, ()))) else pure (ForInStep.yield (none, ())) : Sem (ForInStep (Option Bool × Unit)))) = some (if eqL (xs.drop off) (ys.drop off) then (none, ()) else (some false, ())) := by
 intro fs
 induction fs with
 | nil =>
  intro off ks h xs ys fx fy _ _
  cases h
  have h1 : xs.drop off = [] := by cases hq : xs.drop off with | nil => rfl | cons a l => rw [hq] at fx; cases fx
  rw [h1]
  rfl
 | cons f fs ih2 =>
  intro off ks h xs ys fx fy hx hy
  unfold wmy at h
  split at h
  ·rename_i hf
   obtain ⟨hname, hoff⟩ := hf
   split at h
   ·rename_i k1 hk1
    split at h
    ·rename_i k2 hk2
     cases h
     obtain ⟨fx1, fx2⟩ := wgm fx
     obtain ⟨fy1, fy2⟩ := wgm fy
     have lx := wej fx
     have ly := wej fy
     rw [List.length_append, List.length_drop] at lx ly
     obtain ⟨va, ha, ra⟩ := wzr hk1 (xs := xs) (off := off) (by omega)
     obtain ⟨vb, hb, rb⟩ := wzr hk1 (xs := ys) (off := off) (by omega)
     have he := ih _ _ hk1 _ _ _ _ ra rb fx1 fy1
     have hstep : wo P (if f.name ≠ "_" then (do
       let a ← part f.type ⟨xs⟩ f.offset
       let b ← part f.type ⟨ys⟩ f.offset
       let r ← Op.equalIn m f.type a b
       if (!r) = true then pure (ForInStep.done (some false, ())) else pure (ForInStep.yield (none, ()))) else pure (ForInStep.yield (none, ())) : Sem (ForInStep (Option Bool × Unit))) = some (if eqL ((xs.drop off).take k1.length) ((ys.drop off).take k1.length) then .yield (none, ()) else .done (some false, ())) := by
      rw [if_pos hname, hoff, wib, ha, Option.bind_some, wib, hb, Option.bind_some, wib, he, Option.bind_some]
      cases eqL ((xs.drop off).take k1.length) ((ys.drop off).take k1.length) <;> rfl
     rw [List.forIn_cons, wib, hstep, Option.bind_some, wnbb k1.length (xs.drop off) (ys.drop off) (by rw [List.length_drop, List.length_drop]; omega)]
     cases hq : eqL ((xs.drop off).take k1.length) ((ys.drop off).take k1.length) with
     | false => rfl
     | true =>
      simp only [if_true, Bool.true_and]
      rw [List.drop_drop, List.drop_drop]
      rw [List.drop_drop] at fx2 fy2
      exact ih2 (off + k1.length) k2 hk2 xs ys fx2 fy2 (by omega) (by omega)
    ·cases h
   ·cases h
  ·cases h
theorem equal_ok : ∀ (d : Nat) (t : TypeId) (ks : List AK), wjh P d t = some ks → ∀ (m : Nat), d ≤ m → ∀ (xs ys : List Value) (x y : Value), Rep P t xs x → Rep P t ys y → wnf ks xs = true → wnf ks ys = true → wo P (Op.equalIn m t x y) = some (eqL xs ys) := by
 intro d
 induction d with
 | zero => intro t ks h; cases h
 | succ d ih =>
  intro t ks h m hm xs ys x y hx hy fx fy
  obtain ⟨m, rfl⟩ : ∃ m', m = m' + 1 := ⟨m - 1, by omega⟩
  have hcopy := h
  unfold wjh at h
  split at h
  ·rename_i k hu
   cases h
   obtain ⟨rfl, rfl⟩ := wry hcopy hx hy hu rfl
   simp only [wnf, Bool.and_true] at fx fy
   obtain ⟨a, rfl⟩ := fits_int fx
   obtain ⟨b, rfl⟩ := fits_int fy
   show wo P ((underlying t).bind fun u => _) = _
   rw [wkh t hu]
   simp only [if_true, eqL, wew, Bool.and_true]
   rfl
  ·rename_i hu
   cases h
   obtain ⟨rfl, rfl⟩ := wry hcopy hx hy hu rfl
   simp only [wnf, Bool.and_true] at fx fy
   obtain ⟨a, rfl⟩ := wsy fx
   obtain ⟨b, rfl⟩ := wsy fy
   show wo P ((underlying t).bind fun u => _) = _
   rw [wkh t hu]
   simp only [eqL, wew, Bool.and_true]
   rfl
  ·rename_i hu
   cases h
   obtain ⟨rfl, rfl⟩ := wry hcopy hx hy hu rfl
   simp only [wnf, Bool.and_true] at fx fy
   obtain ⟨a, rfl⟩ := fits_bool fx
   obtain ⟨b, rfl⟩ := fits_bool fy
   show wo P ((underlying t).bind fun u => _) = _
   rw [wkh t hu]
   simp only [eqL, wew, Bool.and_true]
   rfl
  ·rename_i fields hu
   split at h
   ·cases h
   ·rename_i hstood
    split at h
    ·rename_i ks' hf
     split at h
     ·cases h
      obtain ⟨rfl, rfl⟩ := wmrb hx hy hu rfl
      have hl := wnrb (m := m) (fun t ks h xs ys x y => ih t ks h m (by omega) xs ys x y) fields.toList 0 ks hf xs ys (by simpa using fx) (by simpa using fy) (by omega) (by omega)
      show wo P ((underlying t).bind fun u => _) = _
      rw [wkh t hu]
      show wo P ((program).bind fun p => _) = _
      rw [web]
      simp only [program, wo, Option.bind_some, hstood, Bool.false_eq_true, if_false]
      rw [wib, ← Array.forIn_toList, hl, Option.bind_some]
      simp only [List.drop_zero]
      cases eqL xs ys <;> rfl
     ·cases h
    ·cases h
  ·rename_i len elem hu
   split at h
   ·rename_i k1 hk1
    split at h
    ·rename_i hs
     cases h
     simp only [Bool.and_eq_true] at hs
     obtain ⟨i, hi, hsz⟩ := wwt hs.1
     obtain ⟨rfl, rfl⟩ := wmrb hx hy hu rfl
     have lx := wej fx
     have ly := wej fy
     rw [wcv] at lx ly
     show wo P ((underlying t).bind fun u => _) = _
     rw [wkh t hu]
     show wo P ((sizeOf elem).bind fun n => _) = _
     rw [web, wmbb hi, Option.bind_some, hsz, wib]
     simp only [Std.Legacy.Range.forIn_eq_forIn_range', Std.Legacy.Range.size, Nat.sub_zero, Nat.add_one_sub_one, Nat.div_one]
     rw [loop_all (fun i => eqL ((xs.drop (i * k1.length)).take k1.length) ((ys.drop (i * k1.length)).take k1.length))]
     ·rw [Option.bind_some, ← eqL_rows k1.length len 0 xs ys (by rw [← lx, Nat.zero_add]) (by rw [← ly, Nat.zero_add])]
      simp only [Nat.zero_mul, List.drop_zero]
      cases eqL xs ys <;> rfl
     ·intro j hj
      rw [List.mem_range'_1] at hj
      have hb : j * k1.length + k1.length ≤ len * k1.length := by
       have : (j + 1) * k1.length ≤ len * k1.length := Nat.mul_le_mul_right _ (by omega)
       rw [Nat.succ_mul] at this
       exact this
      obtain ⟨va, ha, ra⟩ := wzr hk1 (xs := xs) (off := j * k1.length) (by omega)
      obtain ⟨vb, hb, rb⟩ := wzr hk1 (xs := ys) (off := j * k1.length) (by omega)
      have he := ih _ _ hk1 m (by omega) _ _ _ _ ra rb (wobb len fx j (by omega)) (wobb len fy j (by omega))
      rw [wib, ha, Option.bind_some, wib, hb, Option.bind_some, wib, he, Option.bind_some]
      cases eqL ((xs.drop (j * k1.length)).take k1.length) ((ys.drop (j * k1.length)).take k1.length) <;> rfl
    ·cases h
   ·cases h
  ·cases h
end
end Go.Den
namespace Go.Den
noncomputable section
variable {P : Program}
theorem wmp {v : Option Value} (h : valO v ≠ .none) : ∃ u, v = some u := by
  cases v with
  | none => exact absurd rfl h
  | some u => exact ⟨u, rfl⟩
theorem wkf {t : TypeId} {d : TypeDesc} (h : tyU P t = some d) {α : Type} (f : TypeDesc → Sem α) : wo P ((underlying t).bind f) = wo P (f d) := by
  rw [web, wkp t h, Option.bind_some]
theorem int2_ok {e : Env} {dst : Option Tmp} {op : BinOp} {t : TypeId} {x y : Operand} {b type : TypeId} {pos : String} {after : Array Edge} {guard : Option (Nat × Bool)} {k : IntKind} (hop : isSh op = false) (hne : wig op k (evl e x) (evl e y) ≠ .none) :
    wis P e op (evl e x) (evl e y) ⟨dst, .binOp op t x y b, type, pos, after, guard⟩ = wig op k (evl e x) (evl e y) := by
  unfold wig at hne ⊢
  unfold wis
  split at hne
  · rename_i j a j' c hx hy
    split at hne
    · rename_i hk
      obtain ⟨rfl, rfl⟩ := hk
      obtain ⟨v, hv⟩ := wmp hne
      simp only [hx, hy, hv, and_self, if_true]
      cases hq : wbx op j' j' a c with
      | none =>
        simp only [wbdb]
        refine wrf (by simp [Op.operands, hx, hy, flat]) ?_ (flat_int hv)
        rw [wlp, hx, hy, wlbb, Option.bind_some, wgib op hop, hv]
        rfl
      | some u =>
        have := (intsF_eq hop hq).2
        rw [hv] at this
        cases this
        rfl
    · exact absurd rfl hne
  · exact absurd rfl hne
theorem shift_ok {e : Env} {dst : Option Tmp} {op : BinOp} {t : TypeId} {x y : Operand} {b type : TypeId} {pos : String} {after : Array Edge} {guard : Option (Nat × Bool)} (hop : isSh op = true) (hne : wln op (evl e x) (evl e y) ≠ .none) :
    wis P e op (evl e x) (evl e y) ⟨dst, .binOp op t x y b, type, pos, after, guard⟩ = wln op (evl e x) (evl e y) := by
  unfold wln at hne ⊢
  unfold wis
  split at hne
  · rename_i j a j' c hx hy
    obtain ⟨v, hv⟩ := wmp hne
    simp only [hx, hy, hv]
    cases hq : wbx op j j' a c with
    | none =>
      simp only [wbdb]
      refine wrf (by simp [Op.operands, hx, hy, flat]) ?_ (wflb hv)
      rw [wlp, hx, hy, wlbb, Option.bind_some, wgw op hop, hv]
      rfl
    | some u =>
      have := shF_eq hop hq
      rw [hv] at this
      cases this
      rfl
  · exact absurd rfl hne
theorem str2_ok {e : Env} {dst : Option Tmp} {op : BinOp} {t : TypeId} {x y : Operand} {b type : TypeId} {pos : String} {after : Array Edge} {guard : Option (Nat × Bool)} (hne : wny op (evl e x) (evl e y) ≠ .none) :
    genA P e ⟨dst, .binOp op t x y b, type, pos, after, guard⟩ = wny op (evl e x) (evl e y) := by
  unfold wny at hne ⊢
  split at hne
  · rename_i a c hx hy
    obtain ⟨v, hv⟩ := wmp hne
    simp only [hx, hy, hv]
    refine wrf (by simp [Op.operands, hx, hy, flat]) ?_ (flat_str hv)
    rw [wlp, hx, hy, wkrb, Option.bind_some, pure_str op, hv]
    rfl
  · exact absurd rfl hne
theorem wiw {t : TypeId} (ht : tyU P t = some .bool) (a b : Bool) : wo P (Op.equal t (.bool a) (.bool b)) = some (a == b) := by
  show wo P ((underlying t).bind fun d => _) = _
  rw [wkf ht]
  rfl
theorem eqb_ok {e : Env} {dst : Option Tmp} {t : TypeId} {x y : Operand} {b type : TypeId} {pos : String} {after : Array Edge} {guard : Option (Nat × Bool)} {neg : Bool} (ht : tyU P t = some .bool) (hne : eqbV neg (evl e x) (evl e y) ≠ .none) :
    genA P e ⟨dst, .binOp (if neg then .neq else .eql) t x y b, type, pos, after, guard⟩ = eqbV neg (evl e x) (evl e y) := by
  unfold eqbV at hne ⊢
  split at hne
  · rename_i a c hx hy
    try simp only [hx, hy]
    refine wrf (by simp [Op.operands, hx, hy, flat]) ?_ rfl
    rw [wlp, hx, hy, welb, Option.bind_some]
    cases neg
    · simp only [Bool.false_eq_true, if_false, binOp]
      show (wo P ((Op.equal t (.bool a) (.bool c)).bind fun r => Sem.pure (Value.bool r))).map Next.value = _
      rw [web, wiw ht]
      rfl
    · simp only [if_true, binOp]
      show (wo P ((Op.equal t (.bool a) (.bool c)).bind fun r => Sem.pure (Value.bool !r))).map Next.value = _
      rw [web, wiw ht]
      rfl
  · exact absurd rfl hne
theorem un_ok {e : Env} {dst : Option Tmp} {op : UnOp} {t : TypeId} {x : Operand} {type : TypeId} {pos : String} {after : Array Edge} {guard : Option (Nat × Bool)} (hne : unV op (evl e x) ≠ .none) :
    genA P e ⟨dst, .unOp op t x, type, pos, after, guard⟩ = unV op (evl e x) := by
  unfold unV at hne ⊢
  split at hne
  · rename_i b hx
    try simp only [hx]
    exact wrf (by simp [Op.operands, hx, flat]) (by
      show wo P ((Op.unary .not (evl e x)).bind fun v => Sem.pure (Next.value v)) = _
      rw [hx]; rfl) rfl
  · rename_i k n hx
    try simp only [hx]
    exact wrf (by simp [Op.operands, hx, flat]) (by
      show wo P ((Op.unary .neg (evl e x)).bind fun v => Sem.pure (Next.value v)) = _
      rw [hx]; rfl) rfl
  · rename_i k n hx
    try simp only [hx]
    exact wrf (by simp [Op.operands, hx, flat]) (by
      show wo P ((Op.unary .xor (evl e x)).bind fun v => Sem.pure (Next.value v)) = _
      rw [hx]; rfl) rfl
  · exact absurd rfl hne
theorem conv_ok {e : Env} {dst : Option Tmp} {s d : TypeId} {x : Operand} {type : TypeId} {pos : String} {after : Array Edge} {guard : Option (Nat × Bool)} {j k : IntKind} (hs : tyU P s = some (.int j)) (hd : tyU P d = some (.int k)) (hne : wzeb k (evl e x) ≠ .none) :
    genA P e ⟨dst, .convert s d x, type, pos, after, guard⟩ = wzeb k (evl e x) := by
  unfold wzeb at hne ⊢
  split at hne
  · rename_i j' n hx
    try simp only [hx]
    exact wrf (by simp [Op.operands, hx, flat]) (by
      show wo P ((convert s d (evl e x)).bind fun v => Sem.pure (Next.value v)) = _
      rw [hx, web]
      show (wo P ((underlying s).bind fun a => (underlying d).bind fun b => _)).bind _ = _
      rw [wkf hs, wkf hd]
      rfl) rfl
  · exact absurd rfl hne
theorem byte_at {s : ByteArray} {n : Nat} {b : UInt8} (hb : (bytesOf s)[n]? = some b) : s[n]? = some b := by
  obtain ⟨⟨l⟩⟩ := s
  simp only [bytesOf] at hb
  obtain ⟨h1, h2⟩ := List.getElem?_eq_some_iff.1 hb
  have h3 : n < (⟨⟨l⟩⟩ : ByteArray).size := h1
  exact (getElem?_pos (⟨⟨l⟩⟩ : ByteArray) n h3).trans (congrArg some h2)
theorem worb {x j : Value} (hne : woy x j ≠ .none) : ∃ s k n b, x = .string s ∧ j = .int k n ∧ 0 ≤ n ∧ (bytesOf s)[n.toNat]? = some b ∧ woy x j = val (.int .u8 b.toNat) := by
  unfold woy at hne ⊢
  split at hne
  · rename_i s k n
    by_cases hn : 0 ≤ n
    · rw [if_pos hn] at hne ⊢
      cases hb : (bytesOf s)[n.toNat]? with
      | none => rw [hb] at hne; exact absurd rfl hne
      | some b => exact ⟨s, k, n, b, rfl, rfl, hn, hb, by simp only [hb]⟩
    · rw [if_neg hn] at hne; exact absurd rfl hne
  · exact absurd rfl hne
theorem sidx_ok {e : Env} {dst : Option Tmp} {t : TypeId} {x j : Operand} {type : TypeId} {pos : String} {after : Array Edge} {guard : Option (Nat × Bool)} (ht : tyU P t = some .string) (hne : woy (evl e x) (evl e j) ≠ .none) :
    genA P e ⟨dst, .index t x j, type, pos, after, guard⟩ = woy (evl e x) (evl e j) := by
  obtain ⟨s, k, n, b, hx, hj, hn, hb, hv⟩ := worb hne
  rw [hv]
  exact wrf (by simp [Op.operands, hx, hj, flat]) (by
    show wo P ((Instr.index t (evl e x) (evl e j)).bind fun v => Sem.pure (Next.value v)) = _
    rw [hx, hj, web]
    show (wo P ((underlying t).bind fun a => _)).bind _ = _
    rw [wkf ht]
    simp only [hn, if_true, byte_at hb]
    rfl) rfl
theorem slen_ok {e : Env} {dst : Option Tmp} {t : TypeId} {x : Operand} {args : Array Operand} {tys : Array TypeId} {type : TypeId} {pos : String} {after : Array Edge} {guard : Option (Nat × Bool)} (ha : args.toList = [x]) (h0 : tys[0]? = some t) (ht : tyU P t = some .string) (hne : wafb (evl e x) ≠ .none) :
    genA P e ⟨dst, .call ⟨.builtin .len, args, tys⟩, type, pos, after, guard⟩ = wafb (evl e x) := by
  have ha' : args = #[x] := by cases args; simp_all
  subst ha'
  unfold wafb at hne ⊢
  split at hne
  · rename_i s hx
    try simp only [hx]
    have h1 : wo P (Builtin.len_ tys type #[.string s]) = some (.int .i64 (bytesOf s).length) := by
      unfold Builtin.len_
      simp only [h0]
      show wo P ((underlying t).bind fun d => _) = _
      rw [wkf ht]
      rfl
    refine wrf (by simp [Op.operands, Call.operands, hx, flat]) ?_ rfl
    have h2 : wo P (execOp (evl e) ⟨dst, .call ⟨.builtin .len, #[x], tys⟩, type, pos, after, guard⟩) = (wo P (Builtin.len_ tys type #[evl e x])).map Next.value := by
      simp only [execOp, resolve, wib, wdj, Option.bind_some, invoke, builtin]
      have hm : (#[x].map (evl e)) = #[evl e x] := by simp
      rw [hm]
      cases wo P (Builtin.len_ tys type #[evl e x]) <;> rfl
    rw [h2, hx, h1]
    rfl
  · exact absurd rfl hne
theorem whib (x : Value) (y : Nat) (code : BoundsCode) {k : IntKind} {n : Int} (hx : x = .int k n) (h : 0 ≤ n ∧ n ≤ y) : wo P (Instr.sliceBound x y code) = some n.toNat := by
  subst hx
  show wo P (if 0 ≤ n ∧ n ≤ y then pure n.toNat else boundsPanic k n y code) = _
  rw [if_pos h]
  rfl
theorem wan {d : Int} {v : Option Value} {n : Int} (h : sslV.optInt d v = some n) : (v = none ∧ d = n) ∨ ∃ k, v = some (.int k n) := by
  unfold sslV.optInt at h
  split at h
  · cases h; exact .inl ⟨rfl, rfl⟩
  · cases h; exact .inr ⟨_, rfl⟩
  · cases h
theorem sslV_inv {x : Value} {lo hi : Option Value} (hne : sslV x lo hi ≠ .none) : ∃ s l h, x = .string s ∧ sslV.optInt 0 lo = some l ∧ sslV.optInt (bytesOf s).length hi = some h ∧ 0 ≤ l ∧ l ≤ h ∧ h ≤ (bytesOf s).length ∧ sslV x lo hi = val (str (((bytesOf s).take h.toNat).drop l.toNat)) := by
  unfold sslV at hne ⊢
  split at hne
  · rename_i s
    cases hl : sslV.optInt 0 lo with
    | none => simp only [hl] at hne; exact absurd rfl hne
    | some l =>
      cases hh : sslV.optInt (bytesOf s).length hi with
      | none => simp only [hl, hh] at hne; exact absurd rfl hne
      | some h =>
        by_cases hb : 0 ≤ l ∧ l ≤ h ∧ h ≤ (bytesOf s).length
        · refine ⟨s, l, h, rfl, by first | exact hl | rfl, by first | exact hh | rfl, hb.1, hb.2.1, hb.2.2, ?_⟩
          simp only
          rw [if_pos hb]
        · first | (simp only [hl, hh] at hne) | (simp only at hne)
          rw [if_neg hb] at hne; exact absurd rfl hne
  · exact absurd rfl hne
theorem extract_eq (s : ByteArray) (l h : Nat) (hh : h ≤ (bytesOf s).length) : s.extract l h = ⟨⟨((bytesOf s).take h).drop l⟩⟩ := by
  apply ByteArray.ext
  rw [ByteArray.data_extract]
  apply Array.ext'
  rw [Array.toList_extract, List.extract_eq_take_drop, List.drop_take]
theorem ssl_ok {e : Env} {dst : Option Tmp} {t : TypeId} {x : Operand} {lo hi : Option Operand} {type : TypeId} {pos : String} {after : Array Edge} {guard : Option (Nat × Bool)} (ht : tyU P t = some .string) (hne : sslV (evl e x) (lo.map (evl e)) (hi.map (evl e)) ≠ .none) :
    genA P e ⟨dst, .slice t x lo hi none, type, pos, after, guard⟩ = sslV (evl e x) (lo.map (evl e)) (hi.map (evl e)) := by
  obtain ⟨s, l, h, hx, hl, hh, h1, h2, h3, hv⟩ := sslV_inv hne
  rw [hv]
  have hsz : s.size = (bytesOf s).length := by obtain ⟨⟨l⟩⟩ := s; rfl
  have hflo : (lo.toList.all fun x => flat (evl e x)) = true := by
    rcases wan hl with ⟨h4, _⟩ | ⟨k, h4⟩
    · cases lo with
      | none => rfl
      | some v => cases h4
    · cases lo with
      | none => rfl
      | some v => simp only [Option.map_some, Option.some.injEq] at h4; simp only [Option.toList_some, List.all_cons, h4, flat, List.all_nil, Bool.and_self]
  have hfhi : (hi.toList.all fun x => flat (evl e x)) = true := by
    rcases wan hh with ⟨h4, _⟩ | ⟨k, h4⟩
    · cases hi with
      | none => rfl
      | some v => cases h4
    · cases hi with
      | none => rfl
      | some v => simp only [Option.map_some, Option.some.injEq] at h4; simp only [Option.toList_some, List.all_cons, h4, flat, List.all_nil, Bool.and_self]
  have hhigh : wo P (match hi.map (evl e) with | some v => Instr.sliceBound v s.size .sliceAlen | none => pure s.size) = some h.toNat := by
    rcases wan hh with ⟨h4, h5⟩ | ⟨k, h4⟩
    · rw [h4, ← h5, hsz]; rfl
    · rw [h4]; exact whib _ _ _ rfl ⟨by omega, by rw [hsz]; exact h3⟩
  have hlow : wo P (match lo.map (evl e) with | some v => Instr.sliceBound v h.toNat .sliceB | none => pure 0) = some l.toNat := by
    rcases wan hl with ⟨h4, h5⟩ | ⟨k, h4⟩
    · rw [h4, ← h5]; rfl
    · rw [h4]; exact whib _ _ _ rfl ⟨h1, by omega⟩
  refine wrf (by
    have h6 := hflo; have h7 := hfhi
    simp only [Op.operands, Array.toList_append, List.all_append, Option.toList_toArray, h6, h7, Bool.and_true, Bool.true_and, Option.toArray_none]
    simp [hx, flat]) ?_ rfl
  have hb : wo P (Instr.sliceBounds false s.size s.size (lo.map (evl e)) (hi.map (evl e)) none) = some (l.toNat, h.toNat, s.size) := by
    have h8 : wo P (Instr.sliceBounds false s.size s.size (lo.map (evl e)) (hi.map (evl e)) none) = (wo P (match hi.map (evl e) with | some v => Instr.sliceBound v s.size .sliceAlen | none => pure s.size)).bind fun h => (wo P (match lo.map (evl e) with | some v => Instr.sliceBound v h .sliceB | none => pure 0)).map fun l => (l, h, s.size) := by
      unfold Instr.sliceBounds
      generalize hi.map (evl e) = hv
      generalize lo.map (evl e) = lv
      cases hv with
      | none =>
        cases lv with
        | none => rfl
        | some v =>
          show wo P ((Instr.sliceBound v s.size .sliceB).bind fun l => Sem.pure (l, s.size, s.size)) = ((wo P (Instr.sliceBound v s.size .sliceB))).map _
          rw [web]
          cases wo P (Instr.sliceBound v s.size .sliceB) <;> rfl
      | some u =>
        cases lv with
        | none =>
          show wo P ((Instr.sliceBound u s.size .sliceAlen).bind fun h => Sem.pure (0, h, s.size)) = (wo P (Instr.sliceBound u s.size .sliceAlen)).bind fun h => _
          rw [web]
          rfl
        | some v =>
          show wo P ((Instr.sliceBound u s.size .sliceAlen).bind fun h => (Instr.sliceBound v h .sliceB).bind fun l => Sem.pure (l, h, s.size)) = (wo P (Instr.sliceBound u s.size .sliceAlen)).bind fun h => (wo P (Instr.sliceBound v h .sliceB)).map _
          rw [web]
          congr 1
          funext h
          rw [web]
          cases wo P (Instr.sliceBound v h .sliceB) <;> rfl
    rw [h8, hhigh, Option.bind_some, hlow]
    rfl
  show wo P ((Instr.sliceAt t (evl e x) (lo.map (evl e)) (hi.map (evl e)) none).bind fun v => Sem.pure (Next.value v)) = _
  rw [hx, web]
  show (wo P ((underlying t).bind fun a => _)).bind _ = _
  rw [wkf ht]
  show (wo P ((underlying t).bind fun a => _)).bind _ = _
  rw [wkf ht]
  simp only [Option.isSome_none, Bool.false_eq_true, if_false]
  show (wo P ((Instr.sliceBounds false s.size s.size (lo.map (evl e)) (hi.map (evl e)) none).bind fun r => _)).bind _ = _
  rw [web, hb, Option.bind_some]
  show some (Next.value (.string (s.extract l.toNat h.toNat))) = _
  rw [extract_eq s l.toNat h.toNat (by omega)]
theorem wprb {op : BinOp} {t : TypeId} (hg : P.eqGuardType P.depth t = false) (x y : Operand) (xs ys : Array Value) : wo P (eqGuard op t x y (.agg xs) (.agg ys)) = some () := by
  unfold eqGuard
  cases op <;> first
    | rfl
    | (show wo P ((program).bind fun p => _) = _
       rw [web]
       simp only [program, wo, Option.bind_some]
       show wo P ((Sem.program Sem.pure).bind fun q => _) = _
       rw [web]
       simp only [wo, Option.bind_some, hg]
       rfl)
theorem wpbb {ks : List AK} : ∀ {xs : List Value}, wnf ks xs = true → flat (.agg ⟨xs⟩) = true := by
  induction ks with
  | nil => intro xs h; cases xs with | nil => rfl | cons v l => cases h
  | cons k r ih =>
    intro xs h
    cases xs with
    | nil => cases h
    | cons v l =>
      simp only [wnf, Bool.and_eq_true] at h
      have h2 : wol l = true := ih h.2
      have h1 : flat v = true := by
        cases k with
        | int k => obtain ⟨n, rfl⟩ := fits_int h.1; rfl
        | str => obtain ⟨n, rfl⟩ := wsy h.1; rfl
        | bool => obtain ⟨n, rfl⟩ := fits_bool h.1; rfl
      show (flat v && wol l) = true
      rw [h1, h2]
      rfl
theorem eqc_ok {e : Env} {dst : Option Tmp} {t : TypeId} {x y : Operand} {b type : TypeId} {pos : String} {after : Array Edge} {guard : Option (Nat × Bool)} {neg : Bool} {ks : List AK} {d : TypeDesc} (ht : tyU P t = some d) (hd : wjf d = true) (hg : P.eqGuardType P.depth t = false) (hks : wjh P 12 t = some ks) (hne : eqcV neg ks (evl e x) (evl e y) ≠ .none) :
    genA P e ⟨dst, .binOp (if neg then .neq else .eql) t x y b, type, pos, after, guard⟩ = eqcV neg ks (evl e x) (evl e y) := by
  unfold eqcV at hne ⊢
  split at hne
  · rename_i xs ys hx hy
    split at hne
    · rename_i hf
      simp only [Bool.and_eq_true] at hf
      have hq : wo P (Op.equal t (.agg ⟨xs⟩) (.agg ⟨ys⟩)) = some (eqL xs ys) := equal_ok 12 t ks hks 10000 (by omega) xs ys _ _ ⟨d, ht, .inl ⟨hd, rfl⟩⟩ ⟨d, ht, .inl ⟨hd, rfl⟩⟩ hf.1 hf.2
      simp only [hx, hy, hf.1, hf.2, Bool.and_self, if_true]
      refine wrf (by simp [Op.operands, hx, hy, wpbb hf.1, wpbb hf.2]) ?_ rfl
      rw [wlp, hx, hy, wprb hg, Option.bind_some]
      cases neg
      · simp only [Bool.false_eq_true, if_false, binOp]
        show (wo P ((Op.equal t (.agg ⟨xs⟩) (.agg ⟨ys⟩)).bind fun r => Sem.pure (Value.bool r))).map Next.value = _
        rw [web, hq]
        rfl
      · simp only [if_true, binOp]
        show (wo P ((Op.equal t (.agg ⟨xs⟩) (.agg ⟨ys⟩)).bind fun r => Sem.pure (Value.bool !r))).map Next.value = _
        rw [web, hq]
        rfl
    · exact absurd rfl hne
  · exact absurd rfl hne
theorem evls_map (e : Env) (l : List Operand) : evls e l = l.map (evl e) := by
  induction l with
  | nil => rfl
  | cons x l ih => show evl e x :: evls e l = _; rw [ih]; rfl
theorem mm_min {k : IntKind} : ∀ (r : List Value) (n : Int) (v : Value), mmI false k r n = some v → wo P (r.foldlM Builtin.min2 (.int k n)) = some v ∧ ∃ m, v = .int k m := by
  intro r
  induction r with
  | nil => intro n v h; cases h; exact ⟨rfl, _, rfl⟩
  | cons a r ih =>
    intro n v h
    cases a with
    | int j y =>
      rw [List.foldlM_cons, wib]
      show (wo P (Builtin.min2 (.int k n) (.int j y))).bind _ = _ ∧ _
      exact ih _ v h
    | _ => cases h
theorem mm_max {k : IntKind} : ∀ (r : List Value) (n : Int) (v : Value), mmI true k r n = some v → wo P (r.foldlM Builtin.max2 (.int k n)) = some v ∧ ∃ m, v = .int k m := by
  intro r
  induction r with
  | nil => intro n v h; cases h; exact ⟨rfl, _, rfl⟩
  | cons a r ih =>
    intro n v h
    cases a with
    | int j y =>
      rw [List.foldlM_cons, wib]
      show (wo P (Builtin.max2 (.int k n) (.int j y))).bind _ = _ ∧ _
      exact ih _ v h
    | _ => cases h
theorem mm_flat {mx : Bool} {k : IntKind} : ∀ (r : List Value) (n : Int) (v : Value), mmI mx k r n = some v → ∀ u ∈ r, flat u = true := by
  intro r
  induction r with
  | nil => intro n v h u hu; cases hu
  | cons a r ih =>
    intro n v h u hu
    cases a with
    | int j y =>
      rcases List.mem_cons.1 hu with rfl | hu
      · rfl
      · exact ih _ v h u hu
    | _ => cases h
theorem mm_ok {e : Env} {dst : Option Tmp} {b : Builtin} {mx : Bool} {x : Operand} {r : List Operand} {args : Array Operand} {tys : Array TypeId} {type : TypeId} {pos : String} {after : Array Edge} {guard : Option (Nat × Bool)} (hb : (b = .max ∧ mx = true) ∨ (b = .min ∧ mx = false)) (ha : args.toList = x :: r) (hne : mmV mx (evl e x) (evls e r) ≠ .none) :
    genA P e ⟨dst, .call ⟨.builtin b, args, tys⟩, type, pos, after, guard⟩ = mmV mx (evl e x) (evls e r) := by
  have ha' : args = ⟨x :: r⟩ := by cases args; simp_all
  subst ha'
  rw [evls_map] at hne ⊢
  unfold mmV at hne ⊢
  split at hne
  · rename_i k n hx
    obtain ⟨v, hv⟩ := wmp hne
    rw [hv]
    have hfl : (x :: r).all (fun x => flat (evl e x)) = true := by
      rw [List.all_cons, hx]
      show (true && _) = true
      rw [Bool.true_and, List.all_eq_true]
      intro y hy
      exact mm_flat _ _ _ hv _ (List.mem_map_of_mem hy)
    have hm : (⟨x :: r⟩ : Array Operand).map (evl e) = ⟨evl e x :: r.map (evl e)⟩ := by simp
    rcases hb with ⟨rfl, rfl⟩ | ⟨rfl, rfl⟩
    · obtain ⟨h1, m, hm'⟩ := mm_max (P := P) _ _ _ hv
      refine wrf (by simpa [Op.operands, Call.operands] using hfl) ?_ (by rw [hm']; rfl)
      simp only [execOp, resolve, wib, wdj, Option.bind_some, invoke, builtin, hm, hx]
      show (wo P ((r.map (evl e)).foldlM Builtin.max2 (.int k n))).bind _ = _
      rw [h1]; rfl
    · obtain ⟨h1, m, hm'⟩ := mm_min (P := P) _ _ _ hv
      refine wrf (by simpa [Op.operands, Call.operands] using hfl) ?_ (by rw [hm']; rfl)
      simp only [execOp, resolve, wib, wdj, Option.bind_some, invoke, builtin, hm, hx]
      show (wo P ((r.map (evl e)).foldlM Builtin.min2 (.int k n))).bind _ = _
      rw [h1]; rfl
  · exact absurd rfl hne
end
end Go.Den
namespace Go.Den
noncomputable section
variable {P : Program}
theorem wqrb {e : Env} {H : AH} {dst : Option Tmp} {s d : TypeId} {x : Operand} {type : TypeId} {pos : String} {after : Array Edge} {guard : Option (Nat × Bool)} (h : riA P e H (wkbb P s d x) ≠ .none) :
  genA P e ⟨dst, .convert s d x, type, pos, after, guard⟩ = riA P e H (wkbb P s d x) := by
 unfold wkbb at h ⊢
 split
 ·rename_i j k hs hd
  rw [hs, hd] at h
  exact conv_ok hs hd h
 ·rename_i hn
  split at h
  ·rename_i j k hs hd; exact absurd hd (hn _ _ hs)
  ·exact absurd rfl h
theorem wiib {e : Env} {H : AH} {dst : Option Tmp} {op : BinOp} {t : TypeId} {x y : Operand} {b type : TypeId} {pos : String} {after : Array Edge} {guard : Option (Nat × Bool)} {d : TypeDesc} (ht : tyU P t = some d) (hd : wjf d = true)
  (h : riA P e H (bif P.eqGuardType P.depth t then .bad else trEq op (wjh P 12 t) x y) ≠ .none) :
  genA P e ⟨dst, .binOp op t x y b, type, pos, after, guard⟩ = riA P e H (bif P.eqGuardType P.depth t then .bad else trEq op (wjh P 12 t) x y) := by
 cases hg : P.eqGuardType P.depth t with
 | true => rw [hg, cond_true] at h; exact absurd rfl h
 | false =>
  rw [hg, cond_false] at h
  rw [cond_false]
  unfold trEq at h ⊢
  cases hks : wjh P 12 t with
  | none => rw [hks] at h; cases op <;> exact absurd rfl h
  | some ks =>
   rw [hks] at h
   cases op with
   | eql => exact eqc_ok (neg := false) ht hd hg hks h
   | neq => exact eqc_ok (neg := true) ht hd hg hks h
   | _ => exact absurd rfl h
theorem trBin_ok {e : Env} {H : AH} {dst : Option Tmp} {op : BinOp} {t : TypeId} {x y : Operand} {b type : TypeId} {pos : String} {after : Array Edge} {guard : Option (Nat × Bool)} (h : riA P e H (wirb P op t x y) ≠ .none) :
  genA P e ⟨dst, .binOp op t x y b, type, pos, after, guard⟩ = riA P e H (wirb P op t x y) := by
 unfold wirb at h ⊢
 cases ht : tyU P t with
 | none => rw [ht] at h; exact absurd rfl h
 | some d =>
  rw [ht] at h
  cases d with
  | string => exact str2_ok h
  | bool =>
   simp only at h ⊢
   cases op with
   | eql => exact eqb_ok (neg := false) ht h
   | neq => exact eqb_ok (neg := true) ht h
   | _ => exact absurd rfl h
  | struct fs => exact wiib ht rfl h
  | array n el => exact wiib ht rfl h
  | _ => exact absurd rfl h
theorem trGen_ok {e : Env} {H : AH} {o : Oper} (h : riA P e H (wbfb P o) ≠ .none) : genA P e o = riA P e H (wbfb P o) := by
 obtain ⟨dst, op, type, pos, after, guard⟩ := o
 unfold wbfb at h ⊢
 cases op with
 | binOp op t x y b => exact trBin_ok h
 | unOp op t x => exact un_ok h
 | convert s d x => exact wqrb h
 | index t x j =>
  simp only at h ⊢
  cases ht : tyU P t with
  | none => rw [ht] at h; exact absurd rfl h
  | some d =>
   rw [ht] at h
   cases d <;> first | exact sidx_ok ht h | exact absurd rfl h
 | slice t x lo hi mx =>
  cases mx with
  | none =>
   simp only at h ⊢
   cases ht : tyU P t with
   | none => rw [ht] at h; exact absurd rfl h
   | some d =>
    rw [ht] at h
    cases d <;> first | exact ssl_ok ht h | exact absurd rfl h
  | some m => exact absurd rfl h
 | call c =>
  obtain ⟨callee, args, tys⟩ := c
  simp only at h ⊢
  split
  ·rename_i x t h2 h3
   simp only [h2, h3] at h
   cases ht : tyU P t with
   | none => rw [ht] at h; exact absurd rfl h
   | some d =>
    rw [ht] at h
    cases d <;> first | exact slen_ok h2 h3 ht h | exact absurd rfl h
  ·rename_i x r h2
   simp only [h2] at h
   exact mm_ok (.inl ⟨rfl, rfl⟩) h2 h
  ·rename_i x r h2
   simp only [h2] at h
   exact mm_ok (.inr ⟨rfl, rfl⟩) h2 h
  ·rename_i hn2 hn3 hn
   split at h
   ·rename_i x t h2 h3; exact (hn _ _ rfl h2 h3).elim
   ·rename_i x r h2; exact (hn2 _ _ rfl h2).elim
   ·rename_i x r h2; exact (hn3 _ _ rfl h2).elim
   ·exact absurd rfl h
 | _ => exact absurd rfl h
theorem wbn {a b : Operand} (h : wnq a b = true) : a = b := by
 unfold wnq at h
 split at h
 ·rw [Nat.eq_of_beq_eq_true h]
 ·simp only [Bool.and_eq_true, wuz, beq_iff_eq] at h
  rw [wgi h.1, h.2]
 ·cases h
theorem lenS_ok {e : Env} {o : Oper} {x : Operand} (ho : wjrb P o x = true) (h : wpy (evl e x) ≠ .none) : wex P e (evl e x) o = wpy (evl e x) := by
 unfold wjrb at ho
 split at ho
 ·rename_i c hc
  split at ho
  ·rename_i y t h1 h2 h3
   split at ho
   ·rename_i el ht
    have hxy := wbn ho
    subst hxy
    unfold wpy at h ⊢
    unfold wex
    cases hv : evl e x with
    | slice a n c' =>
     cases a with
     | some a => rfl
     | none =>
      show genA P e o = val (.int .i64 n)
      obtain ⟨dst, op, type, pos, after, guard⟩ := o
      simp only at hc
      subst hc
      obtain ⟨callee, args, tys⟩ := c
      simp only at h1 h2 h3
      subst h1
      have ha' : args = #[x] := by cases args; simp_all
      subst ha'
      have hl : wo P (Builtin.len_ tys type #[.slice none n c']) = some (.int .i64 n) := by
       unfold Builtin.len_
       simp only [h3]
       show wo P ((underlying t).bind fun d => _) = _
       rw [wkf ht]
       rfl
      refine wrf (by simp [Op.operands, Call.operands, hv, flat]) ?_ rfl
      have h2 : wo P (execOp (evl e) ⟨dst, .call ⟨.builtin .len, #[x], tys⟩, type, pos, after, guard⟩) = (wo P (Builtin.len_ tys type #[evl e x])).map Next.value := by
       simp only [execOp, resolve, wib, wdj, Option.bind_some, invoke, builtin]
       have hm : (#[x].map (evl e)) = #[evl e x] := by simp
       rw [hm]
       cases wo P (Builtin.len_ tys type #[evl e x]) <;> rfl
      rw [h2, hv, hl]
      rfl
    | func fn a b =>
     rw [hv] at h
     simp only at h ⊢
     cases hq : asFL (.func fn a b) with
     | none => rw [hq] at h; exact absurd rfl h
     | some p => rfl
    | _ => rw [hv] at h; exact absurd rfl h
   ·cases ho
  ·cases ho
 ·cases ho
theorem slS_ok {e : Env} {H : AH} {size : Nat} {x : Operand} {lo hi mx : Option Operand} {o : Oper} (h : slSR e H size (evl e x) lo hi mx ≠ .none) : slSA P e H size (evl e x) lo hi mx o = slSR e H size (evl e x) lo hi mx := by
 unfold slSR at h ⊢
 unfold slSA
 cases hv : evl e x with
 | slice a n c =>
  cases a with
  | some a => rfl
  | none => rw [hv] at h; exact absurd rfl h
 | func fn a b =>
  rw [hv] at h
  simp only at h ⊢
  cases hq : asFL (.func fn a b) with
  | none => rw [hq] at h; exact absurd rfl h
  | some p => rfl
 | _ => rw [hv] at h; exact absurd rfl h
theorem look_ok {e : Env} {H : AH} {kt : Nat} {zero : Value} {ok : Bool} {m k : Operand} {o : Oper} (h : wjbb P H kt zero ok (evl e m) (evl e k) ≠ .none) : wgx P e H kt zero ok (evl e m) (evl e k) o = wjbb P H kt zero ok (evl e m) (evl e k) := by
 unfold wjbb at h ⊢
 unfold wgx
 cases hv : evl e m with
 | map r =>
  cases r with
  | some r => rfl
  | none => rw [hv] at h; exact absurd rfl h
 | _ => rw [hv] at h; exact absurd rfl h
theorem lenM_ok {e : Env} {H : AH} {x : Operand} {o : Oper} (h : wdlb H (evl e x) ≠ .none) : wfx P e H (evl e x) o = wdlb H (evl e x) := by
 unfold wdlb at h ⊢
 unfold wfx
 cases hv : evl e x with
 | map r =>
  cases r with
  | some r => rfl
  | none => rw [hv] at h; exact absurd rfl h
 | _ => rw [hv] at h; exact absurd rfl h
theorem topu_ok {e : Env} {H : AH} {x : Operand} {o : Oper} (h : topuR H (evl e x) ≠ .none) : wpz P e H (evl e x) o = topuR H (evl e x) := by
 generalize evl e x = v at *
 cases v with
 | pointer p =>
  cases p with
  | none => exact absurd rfl h
  | some a => rfl
 | _ => exact absurd rfl h
theorem frpu_ok {e : Env} {H : AH} {u : TypeId} {x : Operand} {o : Oper} (h : frpuR P H u (evl e x) ≠ .none) : wqz P e H u (evl e x) o = frpuR P H u (evl e x) := by
 generalize evl e x = v at *
 cases v with
 | pointer p =>
  cases p with
  | none => exact absurd rfl h
  | some a => rfl
 | _ => exact absurd rfl h
theorem b2s_ok {e : Env} {H : AH} {x : Operand} {o : Oper} (ho : isB2S P o x = true) (h : b2sR H (evl e x) ≠ .none) : b2sA P e H (evl e x) o = b2sR H (evl e x) := by
 unfold isB2S at ho
 split at ho
 ·rename_i src dst y hc
  split at ho
  ·rename_i el hs hd
   split at ho
   ·rename_i he
    have hxy := wbn ho
    subst hxy
    unfold b2sR at h ⊢
    unfold b2sA
    cases hv : evl e x with
    | slice a n c' =>
     cases a with
     | some a =>
      cases n with
      | zero => rfl
      | succ n => rfl
     | none =>
      rw [hv] at h
      cases n with
      | succ n => exact absurd rfl h
      | zero =>
       cases c' with
       | succ c' => exact absurd rfl h
       | zero =>
        show genA P e o = val (.string ⟨#[]⟩)
        obtain ⟨ds, op, type, pos, after, guard⟩ := o
        simp only at hc
        subst hc
        exact wrf (by simp [Op.operands, hv, flat]) (by
         show wo P ((convert src dst (evl e x)).bind fun v => Sem.pure (Next.value v)) = _
         rw [hv, web]
         show (wo P ((underlying src).bind fun a => (underlying dst).bind fun b => _)).bind _ = _
         rw [wkf hs, wkf hd]
         show (wo P ((underlying el).bind fun a => _)).bind _ = _
         rw [wkf he]
         rfl) rfl
    | func fn a b =>
     rw [hv] at h
     simp only at h ⊢
     cases hq : asFL (.func fn a b) with
     | none => rw [hq] at h; exact absurd rfl h
     | some p => rfl
    | _ => rw [hv] at h; exact absurd rfl h
   ·cases ho
  ·cases ho
 ·cases ho
theorem trIns_ok {e : Env} {H : AH} {i : Ins} (h : riA P e H (wll P i) ≠ .none) : insA P e H H.n i = riA P e H (wll P i) := by
 unfold wll at h ⊢
 split
 ·rename_i op x y o
  simp only at h
  split
  ·rename_i op' t x' y' b ho
   simp only [ho] at h
   split
   ·rename_i hs
    simp only [hs, if_true] at h
    obtain ⟨dst, op0, type, pos, after, guard⟩ := o
    simp only at ho
    subst ho
    simp only [Bool.and_eq_true] at hs
    have h1 : op = op' := by simpa [sameOp] using hs.1
    have h2 := wbn hs.2.1
    have h3 := wbn hs.2.2
    subst h1; subst h2; subst h3
    unfold trInt at h ⊢
    cases hs : isSh op with
    | true =>
     simp only [hs, if_true] at h ⊢
     exact shift_ok hs h
    | false =>
     simp only [hs, Bool.false_eq_true, if_false] at h ⊢
     split
     ·rename_i k hk
      rw [hk] at h
      exact int2_ok hs h
     ·rename_i hn
      split at h
      ·rename_i k hk; exact absurd hk (hn k)
      ·exact absurd rfl h
   ·rename_i hs
    rw [if_neg hs] at h
    exact absurd rfl h
  ·rename_i hn
   split at h
   ·rename_i op' t x' y' b ho; exact absurd ho (hn _ _ _ _ _)
   ·exact absurd rfl h
 ·exact trGen_ok h
 ·rename_i x o
  simp only at h
  split
  ·rename_i hs; rw [if_pos hs] at h; exact lenS_ok hs h
  ·rename_i hs; rw [if_neg hs] at h; exact absurd rfl h
 ·exact slS_ok h
 ·exact look_ok h
 ·exact lenM_ok h
 ·rename_i x o
  simp only at h
  split
  ·rename_i hs; rw [if_pos hs] at h; exact b2s_ok hs h
  ·rename_i hs; rw [if_neg hs] at h; exact absurd rfl h
 ·exact topu_ok h
 ·exact frpu_ok h
 ·rfl
theorem wdfb {cs : wzb} {wr : List Nat} {H : AH} {r : ARes} (h : wcg cs wr H r ≠ .none) : r ≠ .none := by
 intro e; subst e; exact h rfl
theorem wrrb {i : Ins} (e : Env) (h : wll P i ≠ .bad) : (bif looks (some i) then whab e (some i) else []) = wbb e (wll P i) ∧ ((∃ j, wll P i = .ins j ∧ j = i) ∨ ((∀ j, wll P i ≠ .ins j) ∧ wnb e i = [])) := by
 cases i with
 | int2 op x y o =>
  have h1 : ∀ j, wll P (.int2 op x y o) ≠ .ins j := by
   intro j
   simp only [wll]
   split
   ·split
    ·unfold trInt; split
     ·intro h; cases h
     ·split <;> (intro h; cases h)
    ·intro h; cases h
   ·intro h; cases h
  have h2 : wbb e (wll P (.int2 op x y o)) = [] := by
   simp only [wll]
   split
   ·split
    ·unfold trInt; split
     ·rfl
     ·split <;> rfl
    ·rfl
   ·rfl
  exact ⟨h2.symm, .inr ⟨h1, rfl⟩⟩
 | gen o =>
  have h0 : (∀ j, wbfb P o ≠ .ins j) ∧ wbb e (wbfb P o) = [] := by
   unfold wbfb
   split
   ·unfold wirb; split
    ·exact ⟨fun j h => (by cases h), rfl⟩
    ·split <;> exact ⟨fun j h => (by cases h), rfl⟩
    ·cases P.eqGuardType P.depth _
     ·unfold trEq; rw [cond_false]; split <;> exact ⟨fun j h => (by cases h), rfl⟩
     ·exact ⟨fun j h => (by cases h), rfl⟩
    ·cases P.eqGuardType P.depth _
     ·unfold trEq; rw [cond_false]; split <;> exact ⟨fun j h => (by cases h), rfl⟩
     ·exact ⟨fun j h => (by cases h), rfl⟩
    ·exact ⟨fun j h => (by cases h), rfl⟩
   ·exact ⟨fun j h => (by cases h), rfl⟩
   ·unfold wkbb; split <;> exact ⟨fun j h => (by cases h), rfl⟩
   ·split <;> exact ⟨fun j h => (by cases h), rfl⟩
   ·split <;> exact ⟨fun j h => (by cases h), rfl⟩
   ·split
    ·split <;> exact ⟨fun j h => (by cases h), rfl⟩
    ·exact ⟨fun j h => (by cases h), rfl⟩
    ·exact ⟨fun j h => (by cases h), rfl⟩
    ·exact ⟨fun j h => (by cases h), rfl⟩
   ·exact ⟨fun j h => (by cases h), rfl⟩
  exact ⟨h0.2.symm, .inr ⟨h0.1, rfl⟩⟩
 | len x o =>
  simp only [wll]
  split
  ·exact ⟨rfl, .inr ⟨fun j h => (by cases h), rfl⟩⟩
  ·exact ⟨rfl, .inr ⟨fun j h => (by cases h), rfl⟩⟩
 | b2s x o =>
  simp only [wll] at h ⊢
  split
  ·exact ⟨rfl, .inr ⟨fun j h => (by cases h), rfl⟩⟩
  ·rename_i hs; rw [if_neg hs] at h; exact absurd rfl h
 | slS size x lo hi mx o => exact ⟨rfl, .inr ⟨fun j h => (by cases h), rfl⟩⟩
 | look kt zero ok m k o => exact ⟨rfl, .inr ⟨fun j h => (by cases h), rfl⟩⟩
 | lenM x o => exact ⟨rfl, .inr ⟨fun j h => (by cases h), rfl⟩⟩
 | topu x o => exact ⟨rfl, .inr ⟨fun j h => (by cases h), rfl⟩⟩
 | frpu u x o => exact ⟨rfl, .inr ⟨fun j h => (by cases h), rfl⟩⟩
 | _ => exact ⟨rfl, .inl ⟨_, rfl, rfl⟩⟩
theorem wjib {cs : wzb} {e : Env} {H : AH} {i : Option Ins} (h : stepR P cs e H (trI P i) ≠ .none) : wgq P cs e H i = stepR P cs e H (trI P i) ∧ (bif looks i then whab e i else []) = wbb e (trI P i) := by
 cases i with
 | none => exact absurd rfl h
 | some i =>
  simp only [trI] at h ⊢
  have hb : wll P i ≠ .bad := by intro hb; rw [hb] at h; exact h rfl
  obtain ⟨h1, h2⟩ := wrrb (P := P) e hb
  refine ⟨?_, h1⟩
  rcases h2 with ⟨j, h3, rfl⟩ | ⟨h3, h4⟩
  ·rw [h3]; rfl
  ·have h5 : stepR P cs e H (wll P i) = wcg cs [] H (riA P e H (wll P i)) := by
    cases ht : wll P i with
    | ins j => exact absurd ht (h3 j)
    | _ => rfl
   rw [h5] at h ⊢
   show wcg cs (wnb e i) H (insA P e H H.n i) = _
   rw [h4, trIns_ok (wdfb h)]
abbrev Le {R : Type} (K K' : KR R) : Prop := ∀ e H r, K e H = some r → K' e H = some r
theorem didG_ne {R : Type} {g : Option Bool} {d : Did} {H : AH} {dst : Option Tmp} {e : Env} {K : KR R} {r : R} (h : opsK (didG g d H) dst e K = some r) : g = some false ∨ (g = some true ∧ d ≠ .none) := by
 cases g with
 | none => cases h
 | some b =>
  cases b with
  | false => exact .inl rfl
  | true =>
   refine .inr ⟨rfl, ?_⟩
   intro hd
   subst hd
   cases h
theorem opsR_ok {R : Type} {cs : wzb} {ops : Array Oper} : ∀ (l : List Oper) (K K' : KR R), Le K K' → Le (opsR P cs K (wqy P ops l)) (opsA P cs K' (wyg P ops l)) := by
 intro l
 induction l with
 | nil => intro K K' hK e H r h; exact hK e H r h
 | cons o l ih =>
  intro K K' hK e H r h
  have h' : opsK (didG (gsel (woc ops o.guard) e) (stepR P cs e H (trI P (comp P o))) H) o.dst e (opsR P cs K (wqy P ops l)) = some r := h
  show opsK (didG (gsel (woc ops o.guard) e) (wgq P cs e H (comp P o)) H) o.dst e (opsA P cs K' (wyg P ops l)) = some r
  have hd : didG (gsel (woc ops o.guard) e) (wgq P cs e H (comp P o)) H = didG (gsel (woc ops o.guard) e) (stepR P cs e H (trI P (comp P o))) H := by
   rcases didG_ne h' with hg | ⟨hg, hne⟩
   ·rw [hg]; rfl
   ·rw [hg]; exact (wjib hne).1
  rw [hd]
  revert h'
  cases didG (gsel (woc ops o.guard) e) (stepR P cs e H (trI P (comp P o))) H with
  | none => intro h'; cases h'
  | did v nb eff H' wr => intro h'; exact ih K K' hK _ _ _ h'
theorem opsDR_ok {R : Type} {cs : wzb} {ops : Array Oper} : ∀ (l : List Oper) (K K' : KR R), Le K K' → ∀ i acc, Le (wod P cs (Region.before ops) K (wqy P ops l) i acc) (opsD P cs ops K' (wyg P ops l) i acc) := by
 intro l
 induction l with
 | nil =>
  intro K K' hK i acc e H r h
  have h' : wcj (Region.before ops) acc K e H = some r := h
  show wbt ops acc K' e H = some r
  unfold wcj at h'
  unfold wbt
  cases hq : (wqf (Region.before ops) acc.reverse && wji (Region.before ops) acc) with
  | false => rw [hq, cond_false] at h'; cases h'
  | true => rw [hq, cond_true] at h'; rw [cond_true]; exact hK _ _ _ h'
 | cons o l ih =>
  intro K K' hK i acc e H r h
  have h' : wbv (didG (gsel (woc ops o.guard) e) (stepR P cs e H (trI P (comp P o))) H) (trO P ops o) i acc e H (wod P cs (Region.before ops) K (wqy P ops l)) = some r := h
  show opsKD (didG (gsel (woc ops o.guard) e) (wgq P cs e H (comp P o)) H) (wti P ops o) i acc e H (opsD P cs ops K' (wyg P ops l)) = some r
  cases hg : gsel (woc ops o.guard) e with
  | none => rw [hg] at h'; cases h'
  | some b =>
   cases b with
   | false =>
    rw [hg] at h'
    have h2 : wod P cs (Region.before ops) K (wqy P ops l) (i + 1) (tiR (gsel (woc ops o.guard) e) i (trI P (comp P o)) e H none false H [] acc) (e.put o.dst undef) H = some r := h'
    show opsD P cs ops K' (wyg P ops l) (Nat.succ i) (tiOf (gsel (woc ops o.guard) e) i (wti P ops o) e H none false H [] acc) (e.put o.dst undef) H = some r
    rw [hg] at h2 ⊢
    exact ih K K' hK _ _ _ _ _ h2
   | true =>
    rw [hg] at h'
    have hd : stepR P cs e H (trI P (comp P o)) ≠ .none := by
     intro hd
     simp only [didG, hd] at h'
     cases h'
    obtain ⟨h1, h2⟩ := wjib hd
    simp only [didG] at h' ⊢
    rw [h1]
    revert h'
    cases hq : stepR P cs e H (trI P (comp P o)) with
    | none => intro h'; cases h'
    | did v nb eff H' wr =>
     intro h'
     have h3 : wod P cs (Region.before ops) K (wqy P ops l) (i + 1) (tiR (gsel (woc ops o.guard) e) i (trI P (comp P o)) e H nb eff H' wr acc) (e.put o.dst v) H' = some r := h'
     show opsD P cs ops K' (wyg P ops l) (Nat.succ i) (tiOf (gsel (woc ops o.guard) e) i (wti P ops o) e H nb eff H' wr acc) (e.put o.dst v) H' = some r
     have h4 : tiOf (gsel (woc ops o.guard) e) i (wti P ops o) e H nb eff H' wr acc = tiR (gsel (woc ops o.guard) e) i (trI P (comp P o)) e H nb eff H' wr acc := by
      rw [hg]
      simp only [tiOf, tiR, wti]
      rw [h2]
     rw [h4]
     exact ih K K' hK _ _ _ _ _ h3
theorem wkib {R : Type} {cfg : Cfg} {f : FuncId} {p : Nat} {rec : Rec} : ∀ (c : Code) (K K' : KC R), (∀ x, Le (K x) (K' x)) → Le (wxe P cfg f p rec (trC P c) K) (wkl P cfg f p rec c K') := by
 intro c
 induction c with
 | skip => intro K K' hK e H r h; exact hK _ _ _ _ h
 | label l => intro K K' hK e H r h; exact hK _ _ _ _ h
 | ret => intro K K' hK e H r h; exact hK _ _ _ _ h
 | exit id => intro K K' hK e H r h; exact hK _ _ _ _ h
 | region id ops draw =>
  intro K K' hK e H r h
  cases draw with
  | false => exact opsR_ok ops.toList (K .normal) (K' .normal) (hK .normal) e H r h
  | true =>
   simp only [trC, if_true] at h
   show wfqb P (callS P cfg rec) ops (K' .normal) e H = some r
   unfold wfqb
   cases hs : wxo ops with
   | false => simp only [hs, Bool.false_eq_true, if_false] at h; cases h
   | true =>
    simp only [hs, if_true] at h
    rw [cond_true]
    exact opsDR_ok ops.toList (K .normal) (K' .normal) (hK .normal) 0 [] e H r h
 | seq a b iha ihb =>
  intro K K' hK e H r h
  refine iha _ _ (fun x => ?_) e H r h
  cases x with
  | normal => exact ihb K K' hK
  | exit id => exact hK _
  | goto l => exact hK _
  | ret => exact hK _
 | cond c a b iha ihb =>
  intro K K' hK e H r h
  simp only [trC] at h
  show (bif wic c then wqab (evl e c) (wkl P cfg f p rec a K' e H) (wkl P cfg f p rec b K' e H) else none) = some r
  cases hc : wic c with
  | false => simp only [hc, Bool.false_eq_true, if_false] at h; cases h
  | true =>
   simp only [hc, if_true] at h
   rw [cond_true]
   have h' : wqab (evl e c) (wxe P cfg f p rec (trC P a) K e H) (wxe P cfg f p rec (trC P b) K e H) = some r := h
   unfold wqab at h' ⊢
   split at h'
   ·rename_i hv; exact iha K K' hK e H r h'
   ·rename_i hv; exact ihb K K' hK e H r h'
   ·cases h'
 | block id c ih =>
  intro K K' hK e H r h
  refine ih _ _ (fun x => ?_) e H r h
  cases x with
  | normal => exact hK _
  | exit j =>
   intro e H r h
   simp only [wap] at h ⊢
   cases hq : Nat.beq j id with
   | true => rw [hq, cond_true] at h; rw [cond_true]; exact hK _ _ _ _ h
   | false => rw [hq, cond_false] at h; rw [cond_false]; exact hK _ _ _ _ h
  | goto l => exact hK _
  | ret => exact hK _
 | loop c ih =>
  intro K K' hK e H r h
  have h' : wxu rec f p c e H K (cfg.live f (wqc c)) = some r := h
  show wxu rec f p c e H K' (cfg.live f (wqc c)) = some r
  revert h'
  cases cfg.live f (wqc c) with
  | none =>
   intro h'
   unfold wxu wshb at h' ⊢
   simp only at h' ⊢
   split at h'
   ·exact hK _ _ _ _ h'
   ·cases h'
  | some q =>
   obtain ⟨ins, outs, k⟩ := q
   intro h'
   unfold wxu at h' ⊢
   simp only at h' ⊢
   cases hl : (lvOk e.n ins && lvOk e.n outs) with
   | false => rw [hl, cond_false] at h'; cases h'
   | true =>
    rw [hl, cond_true] at h'
    rw [cond_true]
    revert h'
    cases wyd H p (evs e ins) with
    | none => intro h'; cases h'
    | some N =>
     intro h'
     unfold wmeb wjqb at h' ⊢
     simp only at h' ⊢
     split at h'
     ·cases hk : Nat.beq k 999999 with
      | true => rw [hk, cond_true] at h'; rw [cond_true]; exact hK _ _ _ _ h'
      | false =>
       rw [hk, cond_false] at h'
       rw [cond_false]
       rename_i x e1 H1 _
       cases hq : (Nat.beq H1.n k && wmb k) with
       | false => rw [hq, cond_false] at h'; cases h'
       | true => rw [hq, cond_true] at h'; rw [cond_true]; exact hK _ _ _ _ h'
     ·cases h'
 | _ => intro K K' hK e H r h; cases h
theorem resR_eq (H : AH) (e : Env) : ∀ (rs : List ResultVar), wuh P H e rs = resR H e (rs.map (wzl P)) := by
 intro rs
 induction rs with
 | nil => rfl
 | cons x r ih =>
  simp only [wuh, List.map_cons, resR, ih]
  cases resA H e (wzl P x) <;> cases resR H e (r.map (wzl P)) <;> rfl
def retR (P : Program) (raw : Bool) (p : Nat) (rs : List CRes) : KC (Out × AH) := fun x e H => bif isEnd x then valK P raw p H (resR H e rs) else none
theorem retR_eq {raw : Bool} {p : Nat} {rs : List ResultVar} : retR P raw p (rs.map (wzl P)) = retK P raw p rs := by
 funext x e H
 simp only [retR, retK, resR_eq]
theorem call_ok {cfg : Cfg} {f : FuncId} {F : RF} (hF : trF P f = some F) {rec : Rec} {args : List Value} {H : AH} {r : Out × AH} (ha : args.length ≤ F.n) (hn : F.n ≤ 1099511627774)
  (h : wxe P cfg f H.n rec F.code (retR P (cfg.raw f).2 H.n F.res) { n := F.n, t := wux args 0 .leaf, g := (cfg.glob, cfg.own f) } H = some r) : wht P cfg rec (.call f args) H = some r := by
 unfold trF at hF
 show wkqb P cfg rec f args H P.funcs[f]? = some r
 split at hF
 ·rename_i fn hfn
  split at hF
  ·rename_i c hc
   cases hF
   rw [hfn]
   simp only [wkqb, hc]
   have h1 : Nat.ble args.length fn.ntmps = true := Nat.ble_eq_true_of_le ha
   have h2 : wmb fn.ntmps = true := Nat.ble_eq_true_of_le hn
   rw [h1, h2]
   simp only [Bool.and_self, cond_true]
   rw [retR_eq] at h
   exact wkib c _ _ (fun _ _ _ _ h => h) _ _ _ h
  ·cases hF
 ·cases hF
theorem wsrb {cfg : Cfg} {f : FuncId} {p : Nat} {c : Code} {rc : RC} (hc : trC P c = rc) {rec : Rec} {e : Env} {H : AH} {r : Out × AH}
  (h : wxe P cfg f p rec rc (wki rec f p c (cfg.live f (wqc c))) e H = some r) : wht P cfg rec (.loop f p c e) H = some r := by
 show wkl P cfg f p rec c (wki rec f p c (cfg.live f (wqc c))) e H = some r
 subst hc
 exact wkib c _ _ (fun _ _ _ _ h => h) _ _ _ h
end
end Go.Den
namespace Go.Den
noncomputable section
variable {P : Program} {cfg : Cfg}
def Evt (P : Program) (cfg : Cfg) {R : Type} (F : Rec → Option R) (r : R) : Prop := ∃ n0, ∀ n, n0 ≤ n → F (den P cfg n) = some r
def Ev (P : Program) (cfg : Cfg) (t : Task) (H : AH) (r : Out × AH) : Prop := Evt P cfg (fun rec => rec t H) r
theorem Evt.of {R : Type} {F : Rec → Option R} {r : R} (h : ∀ rec, F rec = some r) : Evt P cfg F r := ⟨0, fun n _ => h _⟩
theorem Ev.step {t : Task} {H : AH} {r : Out × AH} (h : Evt P cfg (fun rec => wht P cfg rec t H) r) : Ev P cfg t H r := by
 obtain ⟨n0, h⟩ := h
 refine ⟨n0 + 1, fun n hn => ?_⟩
 obtain ⟨m, rfl⟩ : ∃ m, n = m + 1 := ⟨n - 1, by omega⟩
 exact h m (by omega)
theorem Evt.bind {R S : Type} {A : Rec → Option R} {a : R} {F : Rec → Option R → Option S} {r : S} (h : Evt P cfg A a) (k : Evt P cfg (fun rec => F rec (some a)) r) : Evt P cfg (fun rec => F rec (A rec)) r := by
 obtain ⟨n0, h⟩ := h
 obtain ⟨n1, k⟩ := k
 refine ⟨max n0 n1, fun n hn => ?_⟩
 show F (den P cfg n) (A (den P cfg n)) = some r
 rw [h n (by omega)]
 exact k n (by omega)
theorem Evt.mono {R : Type} {F G : Rec → Option R} {r : R} (h : Evt P cfg F r) (hle : ∀ rec, F rec = some r → G rec = some r) : Evt P cfg G r := by
 obtain ⟨n0, h⟩ := h
 exact ⟨n0, fun n hn => hle _ (h n hn)⟩
structure Plain (cfg : Cfg) : Prop where
 raw : ∀ f, cfg.raw f = (false, false)
structure PlainA (cfg : Cfg) : Prop where
 ok : cfg = cfg
def SE (b : Env) : List (Nat × Value) → Env
 | [] => b
 | (k, v) :: l => (SE b l).put (some k) v
def E0 (n : Nat) (g : (Nat → Option (List Value)) × Bool) : Env := ⟨n, .leaf, g⟩
theorem put_n (e : Env) (d : Option Tmp) (v : Value) : (e.put d v).n = e.n := by
 cases d with
 | none => rfl
 | some k =>
  cases e with
  | mk n t g =>
   show (bif Nat.blt k n then (⟨n, T.put v 40 t k, g⟩ : Env) else ⟨n, t, g⟩).n = n
   cases Nat.blt k n <;> rfl
theorem put_g (e : Env) (d : Option Tmp) (v : Value) : (e.put d v).g = e.g := by
 cases d with
 | none => rfl
 | some k =>
  cases e with
  | mk n t g =>
   show (bif Nat.blt k n then (⟨n, T.put v 40 t k, g⟩ : Env) else ⟨n, t, g⟩).g = g
   cases Nat.blt k n <;> rfl
@[simp] theorem SE_n (b : Env) (l : List (Nat × Value)) : (SE b l).n = b.n := by
 induction l with
 | nil => rfl
 | cons p l ih => obtain ⟨k, v⟩ := p; simp only [SE, put_n, ih]
@[simp] theorem SE_g (b : Env) (l : List (Nat × Value)) : (SE b l).g = b.g := by
 induction l with
 | nil => rfl
 | cons p l ih => obtain ⟨k, v⟩ := p; simp only [SE, put_g, ih]
@[simp] theorem E0_n (n : Nat) (g : (Nat → Option (List Value)) × Bool) : (E0 n g).n = n := rfl
@[simp] theorem E0_g (n : Nat) (g : (Nat → Option (List Value)) × Bool) : (E0 n g).g = g := rfl
theorem wefb (e : Env) (k : Nat) (v : Value) (hn : e.n ≤ 1099511627774) (j : Nat) : (e.put (some k) v).get j = if j = k ∧ k < e.n then v else e.get j := by
 cases e with
 | mk n t g =>
  show (bif Nat.blt k n then (⟨n, T.put v 40 t k, g⟩ : Env) else ⟨n, t, g⟩).get j = _
  cases hq : Nat.blt k n with
  | false =>
   have : ¬ k < n := by intro h; rw [Nat.blt_eq.mpr h] at hq; cases hq
   simp [this]
  | true =>
   have hk : k < n := Nat.blt_eq.mp hq
   simp only [cond_true]
   unfold Env.get
   simp only
   have hkey : wmb k = true := Nat.ble_eq_true_of_le (by simp only at hn; omega)
   rw [T.get_put' hkey]
   by_cases hj : j = k
   ·simp [hj, hk]
   ·simp [hj]
theorem SE_put (b : Env) (l : List (Nat × Value)) (k : Nat) (v : Value) : (SE b l).put (some k) v = SE b ((k, v) :: l) := rfl
theorem wffb (e : Env) (v : Value) : e.put none v = e := rfl
def argl : List Value → Nat → List (Nat × Value) → List (Nat × Value)
 | [], _, acc => acc
 | v :: r, k, acc => argl r (k + 1) ((k, v) :: acc)
theorem argl_env (n : Nat) (g : (Nat → Option (List Value)) × Bool) : ∀ (args : List Value) (k : Nat) (acc : List (Nat × Value)) (t : T Value), k + args.length ≤ n → SE (E0 n g) acc = ⟨n, t, g⟩ → (⟨n, wux args k t, g⟩ : Env) = SE (E0 n g) (argl args k acc) := by
 intro args
 induction args with
 | nil => intro k acc t _ h; exact h.symm
 | cons v r ih =>
  intro k acc t hk h
  simp only [wux, argl]
  refine ih (k + 1) ((k, v) :: acc) _ (by simp only [List.length_cons] at hk; omega) ?_
  show (SE (E0 n g) acc).put (some k) v = _
  rw [h]
  show (bif Nat.blt k n then (⟨n, T.put v 40 t k, g⟩ : Env) else ⟨n, t, g⟩) = _
  rw [Nat.blt_eq.mpr (by simp only [List.length_cons] at hk; omega), cond_true]
theorem T.put_put (a b : ABlk) : ∀ (d : Nat) (t : T ABlk) (k : Nat), T.put a d (T.put b d t k) k = T.put a d t k := by
 intro d
 induction d with
 | zero => intro t k; rfl
 | succ d ih =>
  intro t k
  cases t with
  | leaf =>
   cases k with
   | zero => rfl
   | succ j =>
    rcases Nat.mod_two_eq_zero_or_one j with e | e
    ·rw [T.put_leaf_even _ _ _ e, T.put_leaf_even _ _ _ e, T.put_node_even _ _ _ _ _ _ e, ih]
    ·rw [T.put_leaf_odd _ _ _ e, T.put_leaf_odd _ _ _ e, T.put_node_odd _ _ _ _ _ _ e, ih]
  | node l v r =>
   cases k with
   | zero => rfl
   | succ j =>
    rcases Nat.mod_two_eq_zero_or_one j with e | e
    ·rw [T.put_node_even _ _ _ _ _ _ e, T.put_node_even _ _ _ _ _ _ e, T.put_node_even _ _ _ _ _ _ e, ih]
    ·rw [T.put_node_odd _ _ _ _ _ _ e, T.put_node_odd _ _ _ _ _ _ e, T.put_node_odd _ _ _ _ _ _ e, ih]
theorem T.put_comm (a b : ABlk) : ∀ (d : Nat) (t : T ABlk) (k j : Nat), k ≠ j → T.put a d (T.put b d t j) k = T.put b d (T.put a d t k) j := by
 intro d
 induction d with
 | zero => intro t k j _; rfl
 | succ d ih =>
  intro t k j hne
  have h2 : ∀ x y : Nat, k = x + 1 → j = y + 1 → x % 2 = y % 2 → x / 2 ≠ y / 2 := by intro x y h1 h2 h3 h4; omega
  cases t with
  | leaf =>
   cases k with
   | zero =>
    cases j with
    | zero => exact absurd rfl hne
    | succ y =>
     rcases Nat.mod_two_eq_zero_or_one y with e | e
     ·rw [T.put_leaf_even _ _ _ e, T.put_node_zero, T.put_leaf_zero, T.put_node_even _ _ _ _ _ _ e]
     ·rw [T.put_leaf_odd _ _ _ e, T.put_node_zero, T.put_leaf_zero, T.put_node_odd _ _ _ _ _ _ e]
   | succ x =>
    cases j with
    | zero =>
     rcases Nat.mod_two_eq_zero_or_one x with e | e
     ·rw [T.put_leaf_even _ _ _ e, T.put_node_zero, T.put_leaf_zero, T.put_node_even _ _ _ _ _ _ e]
     ·rw [T.put_leaf_odd _ _ _ e, T.put_node_zero, T.put_leaf_zero, T.put_node_odd _ _ _ _ _ _ e]
    | succ y =>
     rcases Nat.mod_two_eq_zero_or_one x with e | e <;> rcases Nat.mod_two_eq_zero_or_one y with e' | e'
     ·rw [T.put_leaf_even _ _ _ e', T.put_leaf_even _ _ _ e, T.put_node_even _ _ _ _ _ _ e, T.put_node_even _ _ _ _ _ _ e', ih _ _ _ (h2 x y rfl rfl (by omega))]
     ·rw [T.put_leaf_odd _ _ _ e', T.put_leaf_even _ _ _ e, T.put_node_even _ _ _ _ _ _ e, T.put_node_odd _ _ _ _ _ _ e']
     ·rw [T.put_leaf_even _ _ _ e', T.put_leaf_odd _ _ _ e, T.put_node_odd _ _ _ _ _ _ e, T.put_node_even _ _ _ _ _ _ e']
     ·rw [T.put_leaf_odd _ _ _ e', T.put_leaf_odd _ _ _ e, T.put_node_odd _ _ _ _ _ _ e, T.put_node_odd _ _ _ _ _ _ e', ih _ _ _ (h2 x y rfl rfl (by omega))]
  | node l v r =>
   cases k with
   | zero =>
    cases j with
    | zero => exact absurd rfl hne
    | succ y =>
     rcases Nat.mod_two_eq_zero_or_one y with e | e
     ·rw [T.put_node_even _ _ _ _ _ _ e, T.put_node_zero, T.put_node_zero, T.put_node_even _ _ _ _ _ _ e]
     ·rw [T.put_node_odd _ _ _ _ _ _ e, T.put_node_zero, T.put_node_zero, T.put_node_odd _ _ _ _ _ _ e]
   | succ x =>
    cases j with
    | zero =>
     rcases Nat.mod_two_eq_zero_or_one x with e | e
     ·rw [T.put_node_even _ _ _ _ _ _ e, T.put_node_zero, T.put_node_zero, T.put_node_even _ _ _ _ _ _ e]
     ·rw [T.put_node_odd _ _ _ _ _ _ e, T.put_node_zero, T.put_node_zero, T.put_node_odd _ _ _ _ _ _ e]
    | succ y =>
     rcases Nat.mod_two_eq_zero_or_one x with e | e <;> rcases Nat.mod_two_eq_zero_or_one y with e' | e'
     ·rw [T.put_node_even _ _ _ _ _ _ e', T.put_node_even _ _ _ _ _ _ e, T.put_node_even _ _ _ _ _ _ e, T.put_node_even _ _ _ _ _ _ e', ih _ _ _ (h2 x y rfl rfl (by omega))]
     ·rw [T.put_node_odd _ _ _ _ _ _ e', T.put_node_even _ _ _ _ _ _ e, T.put_node_even _ _ _ _ _ _ e, T.put_node_odd _ _ _ _ _ _ e']
     ·rw [T.put_node_even _ _ _ _ _ _ e', T.put_node_odd _ _ _ _ _ _ e, T.put_node_odd _ _ _ _ _ _ e, T.put_node_even _ _ _ _ _ _ e']
     ·rw [T.put_node_odd _ _ _ _ _ _ e', T.put_node_odd _ _ _ _ _ _ e, T.put_node_odd _ _ _ _ _ _ e, T.put_node_odd _ _ _ _ _ _ e', ih _ _ _ (h2 x y rfl rfl (by omega))]
def HPf (H : AH) : List ABlk → AH
 | [] => H
 | b :: l => HPf (H.push b) l
def HP (l : List ABlk) : AH := HPf AH0 l
theorem wilb (l : List ABlk) (b : ABlk) : ∀ H, HPf H (l ++ [b]) = (HPf H l).push b := by
 induction l with
 | nil => intro H; rfl
 | cons a l ih => intro H; exact ih (H.push a)
theorem wli (l : List ABlk) (b : ABlk) : (HP l).push b = HP (l ++ [b]) := (wilb l b AH0).symm
theorem HPf_n (l : List ABlk) : ∀ H, (HPf H l).n = H.n + l.length := by
 induction l with
 | nil => intro H; rfl
 | cons a l ih => intro H; simp only [HPf, ih, AH.push_eq, List.length_cons]; omega
theorem HP_n (l : List ABlk) : (HP l).n = l.length := by
 rw [HP, HPf_n]; show 0 + _ = _; omega
theorem wqg (l : List ABlk) (hl : l.length ≤ 1099511627774) (i : Nat) : (HP l).get i = l[i]? := by
 have : ∀ (m : Nat) (l : List ABlk), l.length = m → l.length ≤ 1099511627774 → (HP l).get i = l[i]? := by
  intro m
  induction m with
  | zero =>
   intro l h _
   have := List.eq_nil_of_length_eq_zero h
   subst this
   rfl
  | succ m ih =>
   intro l h h'
   obtain ⟨l0, b, rfl⟩ : ∃ l0 b, l = l0 ++ [b] := ⟨l.dropLast, l.getLast (by intro h2; subst h2; simp at h), (List.dropLast_concat_getLast _).symm⟩
   simp only [List.length_append, List.length_cons, List.length_nil] at h h'
   rw [← wli, AH.get_push (Nat.ble_eq_true_of_le (by rw [HP_n]; omega)), HP_n, ih l0 (by omega) (by omega)]
   by_cases hi : i = l0.length
   ·rw [if_pos hi, hi]; simp
   ·rw [if_neg hi]
    by_cases hlt : i < l0.length
    ·rw [List.getElem?_append_left hlt]
    ·rw [List.getElem?_eq_none (by omega), List.getElem?_eq_none (by simp; omega)]
 exact this _ l rfl hl
theorem AH.ext2 {a b : AH} (h1 : a.n = b.n) (h2 : a.t = b.t) : a = b := by
 cases a; cases b; simp only at h1 h2; subst h1; subst h2; rfl
theorem wnp (l : List ABlk) (i : Nat) (b : ABlk) (hi : i < l.length) : (HP l).set i b = HP (l.set i b) := by
 have : ∀ (m : Nat) (l : List ABlk), l.length = m → i < l.length → (HP l).set i b = HP (l.set i b) := by
  intro m
  induction m with
  | zero => intro l h h'; omega
  | succ m ih =>
   intro l h h'
   obtain ⟨l0, c, rfl⟩ : ∃ l0 c, l = l0 ++ [c] := ⟨l.dropLast, l.getLast (by intro h2; subst h2; simp at h), (List.dropLast_concat_getLast _).symm⟩
   simp only [List.length_append, List.length_cons, List.length_nil] at h h'
   by_cases he : i = l0.length
   ·have h1 : (l0 ++ [c]).set i b = l0 ++ [b] := by rw [he]; simp
    rw [h1, ← wli, ← wli]
    apply AH.ext2
    ·simp only [AH.set_eq, AH.push_eq]
    ·simp only [AH.set_eq, AH.push_eq, HP_n, he, T.put_put]
   ·have h1 : (l0 ++ [c]).set i b = l0.set i b ++ [c] := by rw [List.set_append_left _ _ (by omega)]
    rw [h1, ← wli, ← wli, ← ih l0 (by omega) (by omega)]
    apply AH.ext2
    ·simp only [AH.set_eq, AH.push_eq]
    ·simp only [AH.set_eq, AH.push_eq, HP_n]
     exact T.put_comm _ _ _ _ _ _ he
 exact this _ l rfl hi
end
end Go.Den
