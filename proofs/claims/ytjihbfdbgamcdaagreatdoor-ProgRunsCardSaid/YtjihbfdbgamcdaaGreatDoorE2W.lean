/-
  THE ENGINE, part W: a region that draws its order does what it does in the text's order.
-/
import Derived.Test.YtjihbfdbgamcdaaGreatDoorE2V
namespace Go.Den
noncomputable section

variable {P : Program} {G : Nat → Option (List Value)}

/- THE RUN IN THE TEXT'S ORDER, FOR A REGION THAT DRAWS -/

/-- What one record gives to the checks. -/
def tiTr (x : Tr) : Option Ti := match x.want with
  | true => some (match x.eff with
    | some G => ⟨x.i, [], some (x.wr, x.id, G.n)⟩
    | none => ⟨x.i, tiRd x.nb x.id (bif looks x.o.ins then optRd x.e x.o.ins else []), none⟩)
  | false => none

theorem opsD_chain {R : Type} {cs : Calls0} {ops : Array Oper} {K : KR R} {r : R} : ∀ (l : List Oper) (k : Nat) (acc : List Ti) (e : Env) (H : AH), opsD P cs ops K (compOps P ops l) k acc e H = some r →
    ∃ tr e2 H2, Chain P cs ops k l tr e H e2 H2 ∧ drawEnd ops ((tr.filterMap tiTr).reverse ++ acc) K e2 H2 = some r := by
  intro l
  induction l with
  | nil => intro k acc e H h; exact ⟨[], e, H, ⟨rfl, rfl⟩, h⟩
  | cons o l ih =>
    intro k acc e H h
    have h1 : opsKD (didG (gsel (compO P ops o).guard e) (stepA P cs e H (compO P ops o).ins) H) (compO P ops o) k acc e H (opsD P cs ops K (compOps P ops l)) = some r := h
    unfold opsKD at h1
    split at h1
    · rename_i v nb eff H' wr hd
      obtain ⟨tr, e2, H2, h2, h3⟩ := ih _ _ _ _ h1
      rcases didG_some hd with ⟨hg, hs⟩ | ⟨hg, rfl, rfl, rfl, rfl, rfl⟩
      · refine ⟨{ i := k, o := compO P ops o, e := e, h := H, want := true, v := v, nb := nb, id := H.n, eff := if eff then some H' else none, wr := wr } :: tr, e2, H2, ⟨_, _, ⟨rfl, rfl, rfl, rfl, rfl, hg, rfl, .inr ⟨rfl, eff, hs, rfl⟩⟩, h2⟩, ?_⟩
        rw [hg] at h3
        rw [← h3]
        congr 1
        cases eff <;> simp [tiTr, tiOf]
      · refine ⟨{ i := k, o := compO P ops o, e := e, h := H', want := false, v := undef, nb := none, id := H'.n, eff := none, wr := [] } :: tr, e2, H2, ⟨_, _, ⟨rfl, rfl, rfl, rfl, rfl, hg, rfl, .inl ⟨rfl, rfl, rfl, rfl, rfl⟩⟩, h2⟩, ?_⟩
        rw [hg] at h3
        rw [← h3]
        congr 1
    · cases h1

theorem bef_lt {ops : Array Oper} (he : edgesOk ops = true) : ∀ (j i : Nat), j < ops.size → bef ops i j → i < j := by
  intro j
  induction j using Nat.strongRecOn with
  | _ j ih =>
    intro i hj h
    obtain ⟨e, _, _, hlt, h1 | h1⟩ := bef_edge he (Array.getElem?_eq_getElem hj) h
    · omega
    · have := ih e.on hlt i (by omega) h1; omega

/-- The moments of a run, and what is known of them. -/
structure Run (P : Program) (cs : Calls0) (ops : Array Oper) (tr : List Tr) (e : Env) (H : AH) (e2 : Env) (H2 : AH) (Hs : Nat → AH) : Prop where
  chain : Chain P cs ops 0 ops.toList tr e H e2 H2
  len : tr.length = ops.size
  zero : Hs 0 = H
  last : Hs ops.size = H2
  at_ : ∀ (m : Nat), m < ops.size → ∃ x, tr[m]? = some x ∧ x.i = m ∧ x.h = Hs m ∧ x.id = (Hs m).n ∧ (∀ G, x.eff = some G → G = Hs (m + 1) ∧ x.want = true ∧ x.nb = none ∧ Fr (Hs m) (Hs (m + 1)) x.wr) ∧
    (x.eff = none → (x.nb = none ∧ Hs (m + 1) = Hs m) ∨ ∃ b, x.nb = some b ∧ okKey (Hs m).n = true ∧ Hs (m + 1) = (Hs m).push b)
  low : ∀ m, m ≤ ops.size → Low (Hs m)
  mono : ∀ m m', m ≤ m' → m' ≤ ops.size → (Hs m).n ≤ (Hs m').n

theorem Chain.run {cs : Calls0} (hrec : CSOK P G cs) {ops : Array Oper} {tr : List Tr} {e e2 : Env} {H H2 : AH} (hl : Low H) (h : Chain P cs ops 0 ops.toList tr e H e2 H2) : ∃ Hs, Run P cs ops tr e H e2 H2 Hs := by
  obtain ⟨h3, E, Hs, h4, h5, h6, h7, h8⟩ := h.moments
  simp only [Nat.zero_add] at h6 h7 h8
  have hstep : ∀ m, m < ops.size → ∃ x o, tr[m]? = some x ∧ Step1 P cs ops m o x (E m) (Hs m) (E (m + 1)) (Hs (m + 1)) := by
    intro m hm
    obtain ⟨x, h9, h10⟩ := h8 m ops[m] (by simp [hm])
    exact ⟨x, _, h9, h10⟩
  have hone : ∀ m, m < ops.size → (Hs m).n ≤ (Hs (m + 1)).n := fun m hm => by obtain ⟨x, o, _, h9⟩ := hstep m hm; exact h9.mono hrec
  have hmono : ∀ m m', m ≤ m' → m' ≤ ops.size → (Hs m).n ≤ (Hs m').n := by
    intro m m' hle
    induction m' with
    | zero => intro _; rw [Nat.le_zero.1 hle]; exact Nat.le_refl _
    | succ m' ih =>
      intro hs
      by_cases hq : m = m' + 1
      · rw [hq]; exact Nat.le_refl _
      · exact Nat.le_trans (ih (by omega) (by omega)) (hone m' (by omega))
  have hlow : ∀ m, m ≤ ops.size → Low (Hs m) := by
    intro m
    induction m with
    | zero => intro _; rw [h5]; exact hl
    | succ m ih =>
      intro hm
      obtain ⟨x, o, _, h9⟩ := hstep m hm
      have hl := ih (by omega)
      cases hq : x.eff with
      | some G2 => exact ((h9.eff_some hrec hq).2.2.2.choose_spec.2.2 hl).1
      | none =>
        rcases h9.quiet hrec hq with ⟨_, h10⟩ | ⟨b, _, h11, h10⟩
        · rw [h10]; exact hl
        · rw [h10]; exact hl.push h11 b
  refine ⟨Hs, h, by simpa using h3, h5, by simpa using h7, fun m hm => ?_, hlow, hmono⟩
  obtain ⟨x, o, h9, h10⟩ := hstep m hm
  refine ⟨x, h9, h10.1, h10.2.2.2.1, h10.2.2.2.2.1, fun G2 hG => ?_, fun hq => h10.quiet hrec hq⟩
  obtain ⟨h11, h12, h13, i, _, _, h14⟩ := h10.eff_some hrec hG
  exact ⟨h11, h13, h12, h14 (hlow m (by omega))⟩

section
variable {cs : Calls0} {ops : Array Oper} {e e2 : Env} {H H2 : AH} {tr : List Tr} {Hs : Nat → AH}

theorem Run.mem (g : Run P cs ops tr e H e2 H2 Hs) {x : Tr} (hx : x ∈ tr) : x.i < ops.size ∧ tr[x.i]? = some x := by
  obtain ⟨m, hm, rfl⟩ := List.getElem_of_mem hx
  have hm' : m < ops.size := by rw [← g.len]; exact hm
  obtain ⟨y, h1, h2, _⟩ := g.at_ m hm'
  rw [List.getElem?_eq_getElem hm] at h1
  cases h1
  rw [h2]
  exact ⟨hm', List.getElem?_eq_getElem hm⟩

/-- A block that no effect between may change. -/
theorem Run.stay (g : Run P cs ops tr e H e2 H2 Hs) {id m : Nat} : ∀ m', m ≤ m' → m' ≤ ops.size → id < (Hs m).n → (∀ x ∈ tr, m ≤ x.i → x.i < m' → x.eff ≠ none → id ∉ x.wr) → (Hs m').get id = (Hs m).get id := by
  intro m'
  induction m' with
  | zero => intro h _ _ _; rw [Nat.le_zero.1 h]
  | succ m' ih =>
    intro h hs hid hc
    by_cases hq : m = m' + 1
    · rw [hq]
    · rw [← ih (by omega) (by omega) hid fun x hx h1 h2 => hc x hx h1 (by omega)]
      have hid' : id < (Hs m').n := Nat.lt_of_lt_of_le hid (g.mono m m' (by omega) (by omega))
      obtain ⟨x, h1, h2, _, _, h3, h4⟩ := g.at_ m' (by omega)
      have hx : x ∈ tr := List.mem_of_getElem? h1
      cases he : x.eff with
      | some G2 =>
        obtain ⟨_, _, _, hf⟩ := h3 G2 he
        exact hf.2 id (hc x hx (by omega) (by omega) (by rw [he]; simp)) hid'
      | none =>
        rcases h4 he with ⟨_, h5⟩ | ⟨b, _, h6, h5⟩
        · rw [h5]
        · rw [h5, AH.get_push h6, if_neg (by omega)]

/-- Who made a number. -/
theorem Run.maker (g : Run P cs ops tr e H e2 H2 Hs) {id m : Nat} : ∀ m', m ≤ m' → m' ≤ ops.size → (Hs m).n ≤ id → id < (Hs m').n → ∃ x ∈ tr, m ≤ x.i ∧ x.i < m' ∧ x.id ≤ id ∧ id < (Hs (x.i + 1)).n ∧ x.id = (Hs x.i).n := by
  intro m'
  induction m' with
  | zero => intro h _ h1 h2; rw [Nat.le_zero.1 h] at h1; omega
  | succ m' ih =>
    intro h hs h1 h2
    by_cases hq : m = m' + 1
    · rw [hq] at h1; omega
    · by_cases hlt : id < (Hs m').n
      · obtain ⟨x, hx, a, b, c⟩ := ih (by omega) (by omega) h1 hlt
        exact ⟨x, hx, a, by omega, c⟩
      · obtain ⟨x, h3, h4, _, h5, _⟩ := g.at_ m' (by omega)
        exact ⟨x, List.mem_of_getElem? h3, by omega, by omega, by omega, by rw [h4]; exact h2, by rw [h5, h4]⟩

/-- How far the effects that are done reach. -/
theorem Run.reach (g : Run P cs ops tr e H e2 H2 Hs) (hpw : tr.Pairwise Apart) {done todo : List (Nat × AH)} (h : effectsOf tr = done ++ todo) :
    ∃ q, q ≤ ops.size ∧ lastX H done = Hs q ∧ (∀ y ∈ done, y.1 < q) ∧ (∀ y ∈ todo, q ≤ y.1) := by
  have hp := effects_pw hpw
  rw [h] at hp
  have hp2 := List.pairwise_append.1 hp
  rcases List.eq_nil_or_concat done with hd | ⟨A, p, hd⟩
  · subst hd
    exact ⟨0, Nat.zero_le _, g.zero.symm, fun y hy => by simp at hy, fun _ _ => Nat.zero_le _⟩
  · obtain ⟨j, Gj⟩ := p
    rw [List.concat_eq_append] at hd
    subst hd
    have hm : (j, Gj) ∈ effectsOf tr := by rw [h]; simp
    obtain ⟨x, hx, h1, h2⟩ := (mem_effects _ _).1 hm
    simp only at h1 h2
    obtain ⟨h3, h4⟩ := g.mem hx
    obtain ⟨x', h5, _, _, _, h6, _⟩ := g.at_ x.i h3
    rw [h4] at h5
    cases h5
    refine ⟨j + 1, by omega, ?_, ?_, ?_⟩
    · rw [lastX_append, (h6 Gj h2).1, h1]
    · intro y hy
      simp only [List.mem_append, List.mem_singleton] at hy
      rcases hy with hy | rfl
      · have := (List.pairwise_append.1 hp2.1).2.2 y hy (j, Gj) (by simp)
        simp only at this
        omega
      · simp
    · intro y hy
      have := hp2.2.2 (j, Gj) (by simp) y hy
      simp only at this
      omega

theorem tiTr_eff {x : Tr} {G2 : AH} (hw : x.want = true) (he : x.eff = some G2) : tiTr x = some ⟨x.i, [], some (x.wr, x.id, G2.n)⟩ := by unfold tiTr; rw [hw, he]
theorem tiTr_none {x : Tr} (hw : x.want = true) (he : x.eff = none) : tiTr x = some ⟨x.i, tiRd x.nb x.id (bif looks x.o.ins then optRd x.e x.o.ins else []), none⟩ := by unfold tiTr; rw [hw, he]

theorem clear_spec {wr : List Nat} {a b id : Nat} (h : clear1 (wr, a, b) id = true) : id ∉ wr ∧ ¬ (a ≤ id ∧ id < b) := by
  unfold clear1 at h
  simp only [Bool.and_eq_true, Bool.not_eq_true', Bool.and_eq_false_iff] at h
  refine ⟨by simpa using h.1, fun ⟨h1, h2⟩ => ?_⟩
  rcases h.2 with h3 | h3
  · rw [Nat.ble_eq_true_of_le h1] at h3; cases h3
  · rw [show Nat.blt id b = true from Nat.ble_eq_true_of_le h2] at h3; cases h3

/-- Effects and what isn't one: in a row, or apart. -/
theorem sep_spec {acc : List Ti} (hsep : sepAll (Region.before ops) acc = true) {x y : Tr} {G2 : AH} (hx : ∀ t, tiTr x = some t → t ∈ acc) (hy : ∀ t, tiTr y = some t → t ∈ acc) (hxw : x.want = true) (hxe : x.eff = none) (hyw : y.want = true) (hye : y.eff = some G2)
    (h1 : ¬ bef ops x.i y.i) (h2 : ¬ bef ops y.i x.i) : ∀ id ∈ tiRd x.nb x.id (bif looks x.o.ins then optRd x.e x.o.ins else []), id ∉ y.wr ∧ ¬ (y.id ≤ id ∧ id < G2.n) := by
  unfold sepAll at hsep
  rw [List.all_eq_true] at hsep
  have h3 := hsep _ (hx _ (tiTr_none hxw hxe))
  rw [List.all_eq_true] at h3
  have h4 := h3 _ (hy _ (tiTr_eff hyw hye))
  simp only [sep2, Bool.or_eq_true] at h4
  intro id hid
  rcases h4 with h4 | h4 | h4
  · exact absurd h4 h1
  · exact absurd h4 h2
  · rw [List.all_eq_true] at h4
    exact clear_spec (h4 id hid)

theorem chainTi_pw {before : Array Nat} : ∀ (l : List Ti), chainTi before l = true → l.Pairwise fun x y => x.eff ≠ none → y.eff ≠ none → (before.getD y.i 0).testBit x.i = true := by
  intro l
  induction l with
  | nil => intro _; exact .nil
  | cons x l ih =>
    intro h
    simp only [chainTi, Bool.and_eq_true] at h
    refine .cons (fun y hy hx hye => ?_) (ih h.2)
    have h1 := h.1
    cases hq : x.eff with
    | none => exact absurd hq hx
    | some p =>
      rw [hq] at h1
      simp only [List.all_eq_true] at h1
      have h2 := h1 y hy
      cases hq2 : y.eff with
      | none => exact absurd hq2 hye
      | some p2 => rw [hq2] at h2; exact h2

theorem Run.want (g : Run P cs ops tr e H e2 H2 Hs) {x : Tr} (hx : x ∈ tr) {G2 : AH} (he : x.eff = some G2) : x.want = true ∧ G2 = Hs (x.i + 1) := by
  obtain ⟨h3, h4⟩ := g.mem hx
  obtain ⟨x', h5, _, _, _, h6, _⟩ := g.at_ x.i h3
  rw [h4] at h5
  cases h5
  exact ⟨(h6 G2 he).2.1, (h6 G2 he).1⟩

theorem Run.row (g : Run P cs ops tr e H e2 H2 Hs) (hpw : tr.Pairwise Apart) (hc : chainTi (Region.before ops) (tr.filterMap tiTr) = true) : ∀ pre i A j B r, effectsOf tr = pre ++ (i, A) :: (j, B) :: r → bef ops i j := by
  have h1 := chainTi_pw _ hc
  rw [List.pairwise_filterMap] at h1
  have h2 : ∀ l : List Tr, (∀ x ∈ l, x ∈ tr) → l.Pairwise (fun a a' => ∀ b, tiTr a = some b → ∀ b', tiTr a' = some b' → b.eff ≠ none → b'.eff ≠ none → ((Region.before ops).getD b'.i 0).testBit b.i = true) → (effectsOf l).Pairwise fun p q => bef ops p.1 q.1 := by
    intro l
    induction l with
    | nil => intro _ _; exact .nil
    | cons x l ih =>
      intro hm h
      have h3 := List.pairwise_cons.1 h
      have ih := ih (fun y hy => hm y (by simp [hy])) h3.2
      simp only [effectsOf]
      split
      · rename_i G2 hq
        refine .cons (fun z hz => ?_) ih
        obtain ⟨y, hy, h4, h5⟩ := (mem_effects _ _).1 hz
        have w1 := (g.want (hm x (by simp)) hq).1
        have w2 := (g.want (hm y (by simp [hy])) h5).1
        have := h3.1 y hy _ (tiTr_eff w1 hq) _ (tiTr_eff w2 h5) (by simp) (by simp)
        unfold bef
        simp only at this ⊢
        rw [← h4]
        exact this
      · exact ih
  have h3 := h2 tr (fun x hx => hx) h1
  intro pre i A j B r he
  rw [he] at h3
  exact (List.pairwise_cons.1 (List.pairwise_append.1 h3).2.1).1 (j, B) (by simp)

theorem Run.same (g : Run P cs ops tr e H e2 H2 Hs) (hpw : tr.Pairwise Apart) (hkeys : ∀ x ∈ tr, x.nb ≠ none → okKey x.id = true) (hone : ∀ y ∈ tr, ∀ b, y.nb = some b → ∀ x ∈ tr, x.nb ≠ none → x.id = y.id → x.nb = some b)
    (hedges : edgesOk ops = true) {acc : List Ti} (hacc : ∀ x ∈ tr, ∀ t, tiTr x = some t → t ∈ acc) (hsep : sepAll (Region.before ops) acc = true) :
    ∀ x ∈ tr, x.want = true → x.eff = none → ∀ done todo, effectsOf tr = done ++ todo → (∀ y ∈ done, ¬ bef ops x.i y.1) → (∀ y ∈ todo, ¬ bef ops y.1 x.i) →
    ∀ ins, x.o.ins = some ins → looks (some ins) = true → insA P x.e x.h x.id ins = .simple x.v x.nb → insA P x.e (fillHeap H2.n tr (lastX H done)) x.id ins = .simple x.v x.nb ∧ ∀ b, x.nb = some b → (fillHeap H2.n tr (lastX H done)).get x.id = some b := by
  intro x hx hw he done todo hsplit hdone htodo ins hins hlooks hval
  obtain ⟨q, hq, hX, hd1, ht1⟩ := g.reach hpw hsplit
  obtain ⟨hxi, hxt⟩ := g.mem hx
  obtain ⟨x', h5, _, hxh, hxid, _, hxq⟩ := g.at_ x.i hxi
  rw [hxt] at h5
  cases h5
  -- effects between here and there are apart
  have hclear : ∀ y ∈ tr, ∀ G2, y.eff = some G2 → (q ≤ y.i ∧ y.i < x.i ∨ x.i ≤ y.i ∧ y.i < q) → ∀ id ∈ tiRd x.nb x.id (bif looks x.o.ins then optRd x.e x.o.ins else []), id ∉ y.wr ∧ ¬ (y.id ≤ id ∧ id < G2.n) := by
    intro y hy G2 hye hpos
    have hmem : (y.i, G2) ∈ effectsOf tr := (mem_effects _ _).2 ⟨y, hy, rfl, hye⟩
    obtain ⟨hyi, _⟩ := g.mem hy
    have hw2 := (g.want hy hye).1
    rw [hsplit, List.mem_append] at hmem
    refine sep_spec hsep (hacc x hx) (hacc y hy) hw he hw2 hye ?_ ?_
    · intro hb
      rcases hpos with hp | hp
      · have := bef_lt hedges _ _ hyi hb; omega
      · rcases hmem with h | h
        · exact hdone _ h hb
        · have := ht1 _ h; simp only at this; omega
    · intro hb
      rcases hpos with hp | hp
      · rcases hmem with h | h
        · have := hd1 _ h; simp only at this; omega
        · exact htodo _ h hb
      · have := bef_lt hedges _ _ hxi hb; omega
  have hrd : ∀ id ∈ rdIds x.e ins, id ∈ tiRd x.nb x.id (bif looks x.o.ins then optRd x.e x.o.ins else []) := by
    intro id hid
    rw [hins, hlooks, cond_true]
    unfold tiRd
    split
    · exact List.mem_cons_of_mem _ hid
    · exact hid
  rw [hX]
  have hmx : q ≤ x.i ∨ x.i < q := by omega
  refine ⟨insA_reads hlooks (fun id hid b hb => ?_) hval, fun b hb => ?_⟩
  · have hid' := hrd id hid
    rw [hxh] at hb
    have hlt := g.low x.i (by omega) id b hb
    rcases hmx with hle | hgt
    · by_cases hlo : id < (Hs q).n
      · rw [fill_low _ _ _ hkeys id hlo, ← g.stay x.i hle (by omega) hlo fun y hy h1 h2 h3 => ?_]
        · exact hb
        · obtain ⟨G2, hG2⟩ := Option.ne_none_iff_exists'.1 h3
          exact (hclear y hy G2 hG2 (.inl ⟨h1, h2⟩) id hid').1
      · obtain ⟨y, hy, h1, h2, h3, h4, h5⟩ := g.maker x.i hle (by omega) (by omega) hlt
        obtain ⟨hyi, hyt⟩ := g.mem hy
        obtain ⟨y', h6, _, _, _, h7, h8⟩ := g.at_ y.i hyi
        rw [hyt] at h6
        cases h6
        cases hye : y.eff with
        | some G2 =>
          exfalso
          have := (hclear y hy G2 hye (.inl ⟨h1, h2⟩) id hid').2
          rw [(h7 G2 hye).1] at this
          exact this ⟨h3, h4⟩
        | none =>
          rcases h8 hye with ⟨_, h9⟩ | ⟨c, h9, hk, h10⟩
          · rw [h9] at h4; omega
          · rw [h10, push_n] at h4
            have hid3 : id = y.id := by omega
            have := g.stay (id := id) (m := y.i + 1) x.i (by omega) (by omega) (by rw [h10, push_n]; omega) fun z hz z1 z2 z3 => by
              obtain ⟨G2, hG2⟩ := Option.ne_none_iff_exists'.1 z3
              exact (hclear z hz G2 hG2 (.inl ⟨by omega, z2⟩) id hid').1
            rw [hb, h10, AH.get_push hk, if_pos (by omega)] at this
            cases this
            rw [hid3]
            exact fill_made _ _ _ _ _ hkeys (hone y hy b h9) hy h9 (by omega)
    · have hst := g.stay q (by omega) hq hlt fun y hy h1 h2 h3 => by
        obtain ⟨G2, hG2⟩ := Option.ne_none_iff_exists'.1 h3
        exact (hclear y hy G2 hG2 (.inr ⟨h1, h2⟩) id hid').1
      rw [fill_low _ _ _ hkeys id (Nat.lt_of_lt_of_le hlt (g.mono x.i q (by omega) hq)), hst]
      exact hb
  · rcases hxq he with ⟨h1, _⟩ | ⟨c, h1, hk, h2⟩
    · rw [h1] at hb; cases hb
    · rw [hb] at h1
      cases h1
      rcases hmx with hle | hgt
      · exact fill_made _ _ _ _ _ hkeys (hone x hx b hb) hx hb (by rw [hxid]; exact g.mono q x.i hle (by omega))
      · have hlt : x.id < (Hs (x.i + 1)).n := by rw [h2, push_n]; omega
        have hst := g.stay (id := x.id) (m := x.i + 1) q (by omega) hq hlt fun y hy h3 h4 h5 => by
          obtain ⟨G2, hG2⟩ := Option.ne_none_iff_exists'.1 h5
          refine (hclear y hy G2 hG2 (.inr ⟨by omega, h4⟩) x.id ?_).1
          rw [hb]
          simp [tiRd]
        rw [fill_low _ _ _ hkeys x.id (Nat.lt_of_lt_of_le hlt (g.mono _ q (by omega) hq)), hst, h2, AH.get_push hk, if_pos hxid]

/-- With all effects done, and all blocks made: the last heap. -/
theorem Run.fin (g : Run P cs ops tr e H e2 H2 Hs) (hpw : tr.Pairwise Apart) (hkeys : ∀ x ∈ tr, x.nb ≠ none → okKey x.id = true) (hone : ∀ y ∈ tr, ∀ b, y.nb = some b → ∀ x ∈ tr, x.nb ≠ none → x.id = y.id → x.nb = some b) :
    ∀ id, (fillHeap H2.n tr (lastX H (effectsOf tr))).get id = H2.get id := by
  obtain ⟨q, hq, hX, hd1, _⟩ := g.reach hpw (done := effectsOf tr) (todo := []) (by simp)
  have hno : ∀ y ∈ tr, q ≤ y.i → y.eff = none := by
    intro y hy h
    cases he : y.eff with
    | none => rfl
    | some G2 => have := hd1 (y.i, G2) ((mem_effects _ _).2 ⟨y, hy, rfl, he⟩); simp only at this; omega
  have hstay : ∀ m, q ≤ m → m ≤ ops.size → ∀ id, id < (Hs m).n → H2.get id = (Hs m).get id := by
    intro m h1 h2 id hid
    rw [← g.last]
    exact g.stay ops.size h2 (Nat.le_refl _) hid fun y hy h3 _ h5 => absurd (hno y hy (by omega)) h5
  intro id
  rw [hX]
  by_cases hlo : id < (Hs q).n
  · rw [fill_low _ _ _ hkeys id hlo, hstay q (Nat.le_refl _) hq id hlo]
  · cases hb : H2.get id with
    | some b =>
      have hlt : id < (Hs ops.size).n := by rw [← g.last] at hb; exact g.low _ (Nat.le_refl _) id b hb
      obtain ⟨y, hy, h1, h2, h3, h4, h5⟩ := g.maker ops.size hq (Nat.le_refl _) (by omega) hlt
      obtain ⟨hyi, hyt⟩ := g.mem hy
      obtain ⟨y', h6, _, _, _, _, h8⟩ := g.at_ y.i hyi
      rw [hyt] at h6
      cases h6
      rcases h8 (hno y hy h1) with ⟨_, h9⟩ | ⟨c, h9, hk, h10⟩
      · rw [h9] at h4; omega
      · rw [h10, push_n] at h4
        have hid3 : id = y.id := by omega
        have := hstay (y.i + 1) (by omega) (by omega) id (by rw [h10, push_n]; omega)
        rw [hb, h10, AH.get_push hk, if_pos (by omega)] at this
        cases this
        rw [hid3]
        exact fill_made _ _ _ _ _ hkeys (hone y hy b h9) hy h9 (by omega)
    | none =>
      cases hf : (fillHeap H2.n tr (Hs q)).get id with
      | none => rfl
      | some b =>
        exfalso
        rcases fill_inv _ _ _ _ _ hkeys hf with h | ⟨y, hy, h1, h2, h3⟩
        · have := g.low q hq id b h; omega
        · obtain ⟨hyi, hyt⟩ := g.mem hy
          obtain ⟨y', h6, _, _, h5, h7, h8⟩ := g.at_ y.i hyi
          rw [hyt] at h6
          cases h6
          have hye : y.eff = none := by
            cases he : y.eff with
            | none => rfl
            | some G2 => rw [(h7 G2 he).2.2.1] at h1; cases h1
          rcases h8 hye with ⟨h9, _⟩ | ⟨c, h9, hk, h10⟩
          · rw [h9] at h1; cases h1
          · rw [h1] at h9
            cases h9
            have hge : q ≤ y.i := by
              rcases Nat.lt_or_ge y.i q with hlt | hge
              · have := g.mono (y.i + 1) q (by omega) hq
                rw [h10, push_n] at this
                omega
              · exact hge
            have := hstay (y.i + 1) (by omega) (by omega) id (by rw [h10, push_n]; omega)
            rw [hb, h10, AH.get_push hk, if_pos (by omega)] at this
            cases this

end

theorem Ext.same' {ρ ρ' : Ren} {H H' X : AH} {w w' : World} (h : Ext ρ H w ρ' X w') (hn : H'.n = X.n) (hg : ∀ id, H'.get id = X.get id) : Ext ρ H w ρ' H' w' :=
  ⟨h.sub, h.size, h.frame, h.fresh, by rw [hn]; exact h.dom, by rw [hn]; exact h.n, fun id hi => by rw [hg]; exact h.keep id hi, fun id hi => h.new id (by rw [← hg]; exact hi), h.same, h.cells⟩

theorem Rel.same' {ρ : Ren} {B : Nat} {H H' : AH} {w : World} (hR : Rel ρ B H w) (hn : H'.n = H.n) (hg : ∀ id, H'.get id = H.get id) : Rel ρ B H' w :=
  ⟨fun id ver l b h1 h2 => hR.blk id ver l b h1 (by rw [← hg]; exact h2), fun id b h => hR.wf id b (by rw [← hg]; exact h), fun id b h => by rw [hn]; exact hR.low id b (by rw [← hg]; exact h), hR.sep, hR.bnd, hR.base, ⟨hR.fz.cell, fun id ver l i v b h1 h2 h3 => hR.fz.sep id ver l i v b h1 h2 (by rw [← hg]; exact h3)⟩⟩

section
variable {cs : Calls0} {ops : Array Oper} {e e2 : Env} {H H2 : AH} {tr : List Tr}

theorem didRes_wr {cs : Calls0} {wr wr' : List Nat} {H : AH} {r : ARes} {v : Value} {nb : Option ABlk} {b : Bool} {H' : AH} {w1 : List Nat} (h : didRes cs wr H r = .did v nb b H' w1) : ∃ w2, didRes cs wr' H r = .did v nb b H' w2 := by
  cases r with
  | none => cases h
  | simple v nb =>
    cases nb with
    | none => cases h; exact ⟨_, rfl⟩
    | some blk => exact ⟨_, h⟩
  | eff v H2 =>
    simp only [didRes] at h ⊢
    cases hq : Nat.ble H.n H2.n with
    | false => rw [hq, cond_false] at h; cases h
    | true => rw [hq, cond_true] at h; cases h; exact ⟨_, by rw [cond_true]⟩
  | call f args => exact ⟨_, h⟩

theorem mid_step {g : Given P cs ops e H e2 H2 tr} {ρ0 ρ : Ren} {B : Nat} {w0 w : World} {S : Nat → Bool} {done todo : List (Nat × AH)} {a : Act} (hfree : Free ρ0 H.n H2.n) (m : Mid g ρ0 B w0 S done todo ρ a w) {i : Nat} {o : Oper} (hn : Next1 ops S i o)
    {K : Act → World → Prop} {Q : Exit → Act → World → Prop} (hK : ∀ done' todo' ρ' a' w', Mid g ρ0 B w0 (plus S i) done' todo' ρ' a' w' → K a' w') : wpOp P ops Q i K a w := by
  obtain ⟨x, e1, H1, e1', H1', hx, hs, he1, hle⟩ := g.chain.at g.hrec hn.op
  have hget := m.get hn
  rw [← he1] at hget
  have hs' := hs
  obtain ⟨hi, ho, hxe, hxh, hid, hwant, _, hcase⟩ := hs'
  have hguard : gsel (compGuard ops o.guard) (envS S tr e) = some x.want := by
    rw [← hwant]
    unfold compGuard
    cases hg : o.guard with
    | none => rfl
    | some p =>
      obtain ⟨j, want⟩ := p
      simp only [gsel]
      cases hd : (ops[j]?).bind (·.dst) with
      | none => rfl
      | some d =>
        have := hget d (by simp [namesOf, hg, hd])
        simp only [this]
  have hopd : ∀ y ∈ o.op.operands.toList, evl (envS S tr e) y = evl e1 y := by
    intro y hy
    cases y with
    | tmp t => exact hget t (by unfold namesOf; simp only [List.mem_append, List.mem_filterMap]; exact .inr ⟨.tmp t, hy, rfl⟩)
    | const v => rfl
    | func f => rfl
    | global gg => rw [he1]; show globV ((envS S tr e).g.1 gg) = globV ((envS _ tr e).g.1 gg); rw [envS_g, envS_g]
  unfold wpOp
  simp only [hn.op]
  rw [gsel_eq m.env ops o hguard]
  rcases hcase with ⟨h1, h2, h3, h4, h5⟩ | ⟨h1, b, h2, h3⟩
  · rw [h1]
    exact hK _ _ _ _ _ (m.still hn hx hi ho h4 (v' := undef) (by rw [h2]; exact .flat flat_undef))
  · rw [h1]
    refine .inl ?_
    obtain ⟨ins, hcomp, hc⟩ := did_cases g.hrec h2
    have hcong := fun X f => insA_congr hcomp (by rw [envS_g, he1, envS_g]) hopd X f
    have hsimple : x.eff = none → insA P e1 H1 H1.n ins = .simple x.v x.nb → insA P (envS S tr e) (fillHeap H2.n tr (lastX H done)) x.id ins = .simple x.v x.nb ∧ (∀ b, x.nb = some b → (fillHeap H2.n tr (lastX H done)).get x.id = some b) := by
      intro heff hins
      rw [hcong]
      cases hl : looks (some ins) with
      | false =>
        obtain ⟨h6, h7⟩ := insA_indep (X := fillHeap H2.n tr (lastX H done)) hl hins
        rw [hid]
        exact ⟨h6, fun b hb => by rw [h7] at hb; cases hb⟩
      | true =>
        have hxo : x.o.ins = some ins := by rw [ho]; exact hcomp
        have h6 := g.same x hx h1 heff done todo m.split (fun y hy hb => ?_) (fun y hy hb => ?_) ins hxo hl (by rw [hxe, hxh, hid]; exact hins)
        · rw [hxe] at h6; exact h6
        · rw [hi] at hb
          have := m.closed _ _ (m.past _ hy) hb
          rw [hn.new] at this; cases this
        · rw [hi] at hb
          have h12 := hn.ahead _ hb
          rw [m.rest _ hy] at h12; cases h12
    rcases hc with ⟨h6, h7, h8, h9⟩ | ⟨blk, h6, h7, h8, h9, h10⟩ | ⟨h6, h7⟩
    · have heff : x.eff = none := by rw [h3, h7]; rfl
      obtain ⟨h11, h12⟩ := hsimple heff (by rw [h6]; exact h9)
      have key := comp_sound (fresh := x.id) m.rel m.env hcomp
      rw [h11, h6] at key
      obtain ⟨v', k1, k2⟩ := key
      show o.upon P a K Q ((execOp a.eval o).run P w)
      rw [k1]
      exact hK _ _ _ _ _ (m.still hn hx hi ho heff k2)
    · have heff : x.eff = none := by rw [h3, h7]; rfl
      obtain ⟨h11, h12⟩ := hsimple heff (by rw [h6]; exact h10)
      have key := comp_sound (fresh := x.id) m.rel m.env hcomp
      rw [h11, h6] at key
      obtain ⟨v', w', obj, l, k1, k2, k6, k3, k4, k5⟩ := key
      show o.upon P a K Q ((execOp a.eval o).run P w)
      rw [k1]
      exact hK _ _ _ _ _ (m.block hfree hn hx hi ho heff h6 k2 k6 k3 k4 (h12 _ h6))
    · have heff : x.eff = some H1' := by rw [h3, h7.1]; rfl
      have hmono := hs.mono g.hrec
      obtain ⟨k1, k2, k3⟩ := m.effect hfree hn hx hi ho heff hle (by rw [hid, hxh]) (by rw [hxh]; exact hmono)
      have hstep := step_ok (o := o) (e := envS S tr e) (H := H1) (by rw [envS_g]; exact g.hrec)
      obtain ⟨wr2, hsame⟩ : ∃ wr2, stepA P cs (envS S tr e) H1 (comp P o) = .did x.v x.nb b H1' wr2 := by
        rw [hcomp] at h2 ⊢
        have h2' : didRes cs (effWr e1 ins) H1 (insA P e1 H1 H1.n ins) = .did x.v x.nb b H1' x.wr := h2
        show ∃ wr2, didRes cs (effWr (envS S tr e) ins) H1 (insA P (envS S tr e) H1 H1.n ins) = .did x.v x.nb b H1' wr2
        rw [hcong]
        exact didRes_wr h2'
      rw [hsame] at hstep
      rw [hxh] at k1 k2 k3
      refine hstep.2 ρ B w a K Q k1 m.env k2 fun ρ' v' w' hv hp => ?_
      obtain ⟨done', todo', k4⟩ := k3 ρ' v' w' hv hp
      exact hK _ _ _ _ _ k4

theorem plus_listed {listed : Array Bool} {i : Nat} (hi : i < listed.size) : (fun j => (listed.setIfInBounds i true).getD j false) = plus (fun j => listed.getD j false) i := by
  funext j
  unfold plus
  by_cases h : j = i
  · subst h
    simp [hi]
  · rw [if_neg h]
    exact getD_set_ne false fun h' => h h'.symm

theorem any_ok {g : Given P cs ops e H e2 H2 tr} {ρ0 : Ren} {B : Nat} {w0 : World} (hfree : Free ρ0 H.n H2.n) {Q : Exit → Act → World → Prop}
    (hQ : ∀ ρ' a' w', ERel ρ' e2 a' → Rel ρ' B (fillHeap H2.n tr (lastX H (effectsOf tr))) w' → Ext ρ0 H w0 ρ' (fillHeap H2.n tr (lastX H (effectsOf tr))) w' → Q .normal a' w') :
    ∀ (fuel : Nat) (listed : Array Bool) (done todo : List (Nat × AH)) (ρ : Ren) (a : Act) (w : World), listed.size = ops.size → ((List.range ops.size).filter fun j => !listed.getD j false).length ≤ fuel →
      Mid g ρ0 B w0 (fun j => listed.getD j false) done todo ρ a w → wpAny P .any ops Q fuel listed a w := by
  intro fuel
  have hend : ∀ (listed : Array Bool) (done todo : List (Nat × AH)) (ρ : Ren) (a : Act) (w : World), (∀ i, i < ops.size → listed.getD i false = true) → Mid g ρ0 B w0 (fun j => listed.getD j false) done todo ρ a w → Q .normal a w := by
    intro listed done todo ρ a w hall m
    have htodo : todo = [] := by
      cases todo with
      | nil => rfl
      | cons y r =>
        exfalso
        have h1 : y ∈ effectsOf tr := by rw [m.split]; simp
        obtain ⟨z, hz, h2, _⟩ := (mem_effects _ _).1 h1
        obtain ⟨p, hp, _⟩ := g.chain.oper _ _ _ _ _ _ _ rfl z hz
        have h3 := hall z.i (Array.getElem?_eq_some_iff.1 hp).1
        have h4 : listed.getD y.1 false = false := m.rest y (by simp)
        rw [h2] at h3
        rw [h3] at h4; cases h4
    have hdone : done = effectsOf tr := by rw [m.split, htodo]; simp
    have he : envS (fun j => listed.getD j false) tr e = e2 := by
      refine g.chain.envS_upto _ _ _ _ _ _ _ fun x hx => ?_
      obtain ⟨p, hp, _⟩ := g.chain.oper _ _ _ _ _ _ _ rfl x hx
      exact hall x.i (Array.getElem?_eq_some_iff.1 hp).1
    refine hQ ρ a w ?_ ?_ ?_
    · rw [← he]; exact m.env
    · rw [← hdone]; exact m.rel
    · rw [← hdone]; exact m.ext
  induction fuel with
  | zero =>
    intro listed done todo ρ a w hsz hcnt m
    have hall : ∀ i, i < ops.size → listed.getD i false = true := by
      intro i hi
      cases hq : listed.getD i false with
      | true => rfl
      | false =>
        exfalso
        have h1 : i ∈ (List.range ops.size).filter fun j => !listed.getD j false := by simp only [List.mem_filter, List.mem_range, hq]; exact ⟨hi, rfl⟩
        have h2 := List.length_pos_of_mem h1
        omega
    refine ⟨?_, hend listed done todo ρ a w hall m⟩
    cases hr : Region.ready .any ops listed with
    | nil => rfl
    | cons j r =>
      exfalso
      have h1 : j ∈ Region.ready .any ops listed := by rw [hr]; simp
      obtain ⟨h2, o, h3, _⟩ := mem_ready.1 h1
      have h4 := (Array.getElem?_eq_some_iff.1 h3).1
      have h5 := hall j h4
      have h6 : j < listed.size := by omega
      simp [h6] at h2 h5
      rw [h2] at h5; cases h5
  | succ fuel ih =>
    intro listed done todo ρ a w hsz hcnt m
    refine ⟨fun hr => hend listed done todo ρ a w (all_listed g.edges hsz hr) m, fun i hi => ?_⟩
    obtain ⟨h2, o, h3, h4⟩ := mem_ready.1 hi
    have hlt := (Array.getElem?_eq_some_iff.1 h3).1
    have hlt2 : i < listed.size := by omega
    have hnew : listed.getD i false = false := by simp [hlt2] at h2 ⊢; exact h2
    have hnext : Next1 ops (fun j => listed.getD j false) i o := by
      refine ⟨h3, hnew, fun j hj => ?_⟩
      obtain ⟨ed, h5, h6, _, h7⟩ := bef_edge g.edges h3 hj
      have h8 := h4 ed (by simpa using h5) h6
      rcases h7 with h7 | h7
      · rw [← h7]; exact h8
      · exact m.closed j ed.on h8 h7
    refine mid_step hfree m hnext fun done' todo' ρ' a' w' m' => ?_
    rw [← plus_listed hlt2] at m'
    refine ih _ done' todo' ρ' a' w' (by simp [hsz]) ?_ m'
    have hl := left_lt (p := fun j => !listed.getD j false) (q := fun j => !(listed.setIfInBounds i true).getD j false) (i := i) (List.range ops.size) ?_ (by simpa using hlt) (by simp only [hnew]; rfl) ?_
    · omega
    · intro j _ hj
      cases hq : listed.getD j false with
      | false => rfl
      | true => rw [getD_set_true hq] at hj; cases hj
    · have := congrFun (plus_listed hlt2) i
      simp only [plus, if_true] at this
      rw [this]; rfl

end

/-- A region that draws its order. -/
theorem draw_ok {R : Type} {cs : Calls0} {G : Nat → Option (List Value)} (hrec : CSOK P G cs) (hm : P.follows .mixedOrders = true) (id : Nat) (ops : Array Oper) {K : KR R} {r : R} (e : Env) (H : AH) (hg : e.g.1 = G) (h : drawA P cs ops K e H = some r) :
    ∃ e' H', K e' H' = some r ∧ e'.g = e.g ∧ e'.n = e.n ∧ H.n ≤ H'.n ∧ ∀ (ρ : Ren) (B : Nat) (w : World) (a : Act) (Q : Exit → Act → World → Prop), Rel ρ B H w → ERel ρ e a → Free ρ H.n H'.n →
      (∀ ρ' a' w', ERel ρ' e' a' → Post ρ B H w ρ' H' w' → Q .normal a' w') → (Code.region id ops true).wp P Q a w := by
  subst hg
  unfold drawA at h
  cases hst : staticOk ops with
  | false => rw [hst, cond_false] at h; cases h
  | true =>
  rw [hst, cond_true] at h
  obtain ⟨tr, e2, H2, hchain, hend⟩ := opsD_chain _ _ _ _ _ h
  unfold drawEnd at hend
  cases hc : (chainTi (Region.before ops) ((tr.filterMap tiTr).reverse ++ []).reverse && sepAll (Region.before ops) ((tr.filterMap tiTr).reverse ++ [])) with
  | false => rw [hc, cond_false] at hend; cases hend
  | true =>
  rw [hc, cond_true] at hend
  simp only [List.append_nil, List.reverse_reverse, Bool.and_eq_true] at hc
  simp only [staticOk, Bool.and_eq_true] at hst
  have he2 : e2.g = e.g ∧ e2.n = e.n := by
    rw [← hchain.envS_upto (S := fun _ => true) _ _ _ _ _ _ _ fun _ _ => rfl]
    exact ⟨envS_g _ _ _, envS_n _ _ _⟩
  have hmono := (hchain.mono hrec _ _ _ _ _ _ _).1
  refine ⟨e2, H2, hend, he2.1, he2.2, hmono, fun ρ B w a Q hR hE hfree hQ => wp_region_any hm ?_⟩
  obtain ⟨Hs, hrun⟩ := hchain.run hrec hR.low
  have hpw := (hchain.apart hrec _ _ _ _ _ _ _).1
  have hkeys : ∀ x ∈ tr, x.nb ≠ none → okKey x.id = true := fun x hx hn => ((hchain.mono hrec _ _ _ _ _ _ _).2 x hx |>.2.2 hn).2
  have hone : ∀ y ∈ tr, ∀ b, y.nb = some b → ∀ x ∈ tr, x.nb ≠ none → x.id = y.id → x.nb = some b := fun y hy b hb x hx hn hi => by
    have := hchain.unique hrec _ _ _ _ _ _ _ x hx y hy hn (by rw [hb]; simp) hi
    rw [this]; exact hb
  have g : Given P cs ops e H e2 H2 tr := ⟨hrec, hchain, hst.1, hst.2, hrun.row hpw hc.1,
    hrun.same hpw hkeys hone hst.1 (acc := (tr.filterMap tiTr).reverse) (fun x hx t ht => by simp only [List.mem_reverse, List.mem_filterMap]; exact ⟨x, hx, ht⟩) hc.2⟩
  have hfin := hrun.fin hpw hkeys hone
  have hinv : ∀ id b, (fillHeap H2.n tr H).get id = some b → H.get id = some b ∨ (H.n ≤ id ∧ id < H2.n ∧ ∀ c, b = .cells c → c.WF) := by
    intro id b hb
    rcases fill_inv _ _ _ _ _ g.keys hb with h | ⟨y, hy, h1, h2, h3⟩
    · exact .inl h
    · have := ((hchain.mono hrec _ _ _ _ _ _ _).2 y hy).2.2 (by rw [h1]; simp)
      exact .inr ⟨h3, by omega, fun c hc => g.wf hy (by rw [h1, hc])⟩
  have hR0 : Rel ρ B (fillHeap H2.n tr H) { w with drawn := w.drawn + 1 } := by
    have hd : Rel ρ B H { w with drawn := w.drawn + 1 } := drew_rel hR
    refine ⟨?_, ?_, ?_, hd.sep, hd.bnd, hd.base, ⟨hd.fz.cell, ?_⟩⟩
    · intro id ver l b hl hb
      rcases hinv id b hb with h | ⟨h1, h2, _⟩
      · exact hd.blk id ver l b hl h
      · rw [hfree id ver h1 h2] at hl; cases hl
    · intro id c hc
      rcases hinv id _ hc with h | ⟨_, _, h⟩
      · exact hd.wf id c h
      · exact h c rfl
    · intro id b hb
      rw [fill_n]
      rcases hinv id b hb with h | ⟨_, h, _⟩
      · have := hd.low id b h; omega
      · exact h
    · intro id ver l i v b hl hv hb
      rcases hinv id b hb with h | ⟨h1, h2, _⟩
      · exact hd.fz.sep id ver l i v b hl hv h
      · rw [hfree id ver h1 h2] at hl; cases hl
  refine any_ok (g := g) (w0 := w) (ρ0 := ρ) (B := B) hfree (fun ρ' a' w' h1 h2 h3 => hQ ρ' a' w' h1 ⟨h2.same' (fill_n _ _ _).symm fun id => (hfin id).symm, h3.same' (fill_n _ _ _).symm fun id => (hfin id).symm⟩) ops.size (Array.replicate ops.size false) [] (effectsOf tr) ρ a _ (by simp) ?_ ?_
  · exact Nat.le_trans (List.length_filter_le _ _) (by simp)
  · have hS : ∀ j, (Array.replicate ops.size false).getD j false = false := by
      intro j
      by_cases h : j < ops.size <;> simp [h]
    refine ⟨fun i j h => ?_, by simp, fun y hy => by simp at hy, fun y _ => hS y.1, hR.low, hR0, ?_, ?_, ?_⟩
    · simp only [hS] at h; cases h
    · refine ⟨.refl ρ, Nat.le_refl _, fun _ _ _ => rfl, fun id ver l h h' => (by rw [h] at h'; cases h'), fun id ver l h h' => (by rw [h] at h'; cases h'), ?_, ?_, ?_, ⟨rfl, rfl⟩, fun _ _ _ h => .inl h⟩
      · rw [fill_n]; exact hmono
      · intro id h1
        obtain ⟨b, hb⟩ := Option.isSome_iff_exists.1 h1
        rw [show lastX H [] = H from rfl, fill_low _ _ _ g.keys id (hR.low id b hb)]
        exact h1
      · intro id h1
        obtain ⟨b, hb⟩ := Option.isSome_iff_exists.1 h1
        rcases hinv id b hb with h | ⟨h, _⟩
        · exact .inl (by rw [h]; rfl)
        · exact .inr h
    · intro id ver l h1 h2 h3
      rw [hfree id ver h1 h2] at h3; cases h3
    · rw [envS_none _ _ _ fun y _ => hS y.i]
      exact hE

end
end Go.Den
