/-
  THE ENGINE, part U: regions that draw their order: lemmas for their one end.
-/
import Derived.Test.YtjihbfdbgamcdaaGreatDoorE2T
namespace Go.Den
noncomputable section

variable {P : Program} {G : Nat → Option (List Value)}

/- BLOCKS THAT ARE MADE -/

theorem mkx_wf {cs : List Value} {elem : TypeId} {c : CBlk} (h : exact cs elem = .cells c) : c.WF := by
  unfold exact at h
  cases h
  exact ⟨fun n hn => by simp at hn, Nat.le_refl _, fun h => h⟩

theorem insA_wf {e : Env} {H : AH} {f : Nat} {i : Ins} {v : Value} {b : ABlk} (h : insA P e H f i = .simple v (some b)) : ∀ c, b = .cells c → c.WF := by
  cases hl : looks (some i) with
  | false => have := (insA_indep (X := H) hl h).2; cases this
  | true =>
    intro c hc
    subst hc
    cases i with
    | new z el => simp only [insA, ARes.simple.injEq, Option.some.injEq] at h; exact mkx_wf h.2
    | box el x =>
      simp only [insA] at h
      cases hq : isJK (evl e x) with
      | true => rw [hq, cond_true] at h; cases h
      | false => rw [hq, cond_false] at h; simp only [ARes.simple.injEq, Option.some.injEq] at h; exact mkx_wf h.2
    | bslice a l z d =>
      simp only [insA] at h
      cases hq : fillR z (evParts e d) with
      | none => rw [hq] at h; cases h
      | some cs => rw [hq] at h; simp only [fillRes, ARes.simple.injEq, Option.some.injEq] at h; exact mkx_wf h.2
    | mkslice a s d g l j =>
      simp only [insA] at h
      unfold mksliceA at h
      split at h
      · rename_i l c _ _
        cases hq : (Nat.ble l c && roomy c d) with
        | false => rw [hq, cond_false] at h; cases h
        | true => rw [hq, cond_true] at h; simp only [ARes.simple.injEq, Option.some.injEq] at h; exact mkx_wf h.2
      · cases h
    | s2b el x =>
      simp only [insA] at h
      unfold s2bA at h
      split at h
      · simp only [ARes.simple.injEq, Option.some.injEq, ABlk.cells.injEq] at h
        obtain ⟨_, rfl⟩ := h
        exact ⟨fun n hn => by simp only [List.mem_singleton] at hn; subst hn; simp [u8s], Nat.zero_le _, fun h => h⟩
      · cases h
    | mkmap => simp only [insA, ARes.simple.injEq, Option.some.injEq] at h; cases h.2
    | load1 x => have := (quiet_load1 H (evl e x)).nb h; cases this
    | loadN s x => have := (quiet_loadN H s (evl e x)).nb h; cases this
    | slS s x lo hi mx o => have := (quiet_sl e H s (evl e x) lo hi mx o).nb h; cases this
    | lenM x o =>
      exfalso
      simp only [insA] at h
      unfold lenMA at h
      split at h
      · split at h <;> cases h
      · have := (quiet_gen e o).nb h; cases this
    | look a b2 z m k o => have := (quiet_look e H a b2 z (evl e m) (evl e k) o).nb h; cases this
    | b2s x o => have := (quiet_b2s e H (evl e x) o).nb h; cases this
    | usd x =>
      exfalso
      simp only [insA] at h
      unfold usdA at h
      split at h
      · obtain ⟨_, h2⟩ := cond_simple h; cases h2
      · cases h
      · cases h
      · unfold usdF at h
        split at h
        · obtain ⟨_, h2⟩ := cond_simple h; cases h2
        · cases h
    | topu x o =>
      exfalso
      simp only [insA] at h
      unfold topuA at h
      split at h
      · split at h <;> cases h
      · have := (quiet_gen e o).nb h; cases this
    | frpu u x o =>
      exfalso
      simp only [insA] at h
      unfold frpuA at h
      split at h
      · split at h
        · obtain ⟨_, h2⟩ := cond_simple h; cases h2
        · cases h
      · have := (quiet_gen e o).nb h; cases this
    | ustr u x n =>
      exfalso
      simp only [insA] at h
      unfold ustrA at h
      split at h
      · split at h <;> cases h
      · split at h
        · split at h
          · obtain ⟨_, h2⟩ := cond_simple h
            unfold ustrOf at h2
            obtain ⟨_, h3⟩ := cond_simple h2
            cases h3
          · cases h
        · exact ustrF_simple _ h
      · cases h
    | _ => simp [looks] at hl

/- ROWS OF RECORDS -/

def endOf (z : Tr) : Nat := match z.eff with
  | some G => G.n
  | none => match z.nb with
    | some _ => z.id + 1
    | none => z.id

theorem Step1.endOf_eq {cs : Calls0} (hrec : CSOK P G cs) {ops : Array Oper} {k : Nat} {o : Oper} {x : Tr} {e e' : Env} {H H' : AH} (h : Step1 P cs ops k o x e H e' H') : endOf x = H'.n := by
  unfold endOf
  have hid : x.id = H.n := h.2.2.2.2.1
  cases he : x.eff with
  | some G => rw [(h.eff_some hrec he).1]
  | none =>
    rcases h.quiet hrec he with ⟨h1, h2⟩ | ⟨blk, h1, h2, h3⟩
    · rw [h1, h2]; exact hid
    · rw [h1, h3, push_n, hid]

def Apart (y z : Tr) : Prop := y.i < z.i ∧ endOf y ≤ z.id

theorem Chain.apart {cs : Calls0} (hrec : CSOK P G cs) {ops : Array Oper} : ∀ (l : List Oper) (k : Nat) (tr : List Tr) (e : Env) (H : AH) (e2 : Env) (H2 : AH), Chain P cs ops k l tr e H e2 H2 →
    tr.Pairwise Apart ∧ ∀ z ∈ tr, k ≤ z.i := by
  intro l
  induction l with
  | nil =>
    intro k tr e H e2 H2 h
    cases tr with
    | nil => exact ⟨.nil, fun z hz => by simp at hz⟩
    | cons x l => exact h.elim
  | cons o r ih =>
    intro k tr e H e2 H2 h
    cases tr with
    | nil => exact h.elim
    | cons x l =>
      obtain ⟨e', H', h1, h2⟩ := h
      obtain ⟨h3, h4⟩ := ih _ _ _ _ _ _ h2
      obtain ⟨h5, h6⟩ := h2.mono hrec
      have hi : x.i = k := h1.1
      refine ⟨.cons (fun z hz => ⟨by have := h4 z hz; omega, by rw [h1.endOf_eq hrec]; exact (h6 z hz).1⟩) h3, fun z hz => ?_⟩
      simp only [List.mem_cons] at hz
      rcases hz with rfl | hz
      · omega
      · have := h4 z hz; omega

theorem pw_cases {tr : List Tr} (h : tr.Pairwise Apart) {y z : Tr} (hy : y ∈ tr) (hz : z ∈ tr) : y = z ∨ Apart y z ∨ Apart z y := by
  induction h with
  | nil => simp at hy
  | cons h1 _ ih =>
    simp only [List.mem_cons] at hy hz
    rcases hy with rfl | hy <;> rcases hz with rfl | hz
    · exact .inl rfl
    · exact .inr (.inl (h1 _ hz))
    · exact .inr (.inr (h1 _ hy))
    · exact ih hy hz

theorem pw_eq {tr : List Tr} (h : tr.Pairwise Apart) {y z : Tr} (hy : y ∈ tr) (hz : z ∈ tr) (e : y.i = z.i) : y = z := by
  rcases pw_cases h hy hz with h1 | h1 | h1
  · exact h1
  · have := h1.1; omega
  · have := h1.1; omega

/-- A number in two ranges: one record. -/
theorem pw_range {tr : List Tr} (h : tr.Pairwise Apart) {y z : Tr} (hy : y ∈ tr) (hz : z ∈ tr) {id : Nat} (h1 : y.id ≤ id) (h2 : id < endOf y) (h3 : z.id ≤ id) (h4 : id < endOf z) : y = z := by
  rcases pw_cases h hy hz with h5 | h5 | h5
  · exact h5
  · have := h5.2; omega
  · have := h5.2; omega

/-- A record's own step. -/
theorem Chain.at {cs : Calls0} (hrec : CSOK P G cs) {ops : Array Oper} {tr : List Tr} {e e2 : Env} {H H2 : AH} (h : Chain P cs ops 0 ops.toList tr e H e2 H2) {i : Nat} {o : Oper} (ho : ops[i]? = some o) :
    ∃ x e1 H1 e1' H1', x ∈ tr ∧ Step1 P cs ops i o x e1 H1 e1' H1' ∧ e1 = envS (fun j => decide (j < i)) tr e ∧ H1'.n ≤ H2.n := by
  obtain ⟨x, e1, H1, e1', H1', h1, _, h2, h3, _, h4⟩ := h.split _ _ _ _ _ _ _ i o (by simpa using ho)
  rw [Nat.zero_add] at h2 h3
  exact ⟨x, e1, H1, e1', H1', h1, h2, h3, (h4.mono hrec).1⟩

theorem Chain.oper {cs : Calls0} {ops : Array Oper} : ∀ (l : List Oper) (k : Nat) (tr : List Tr) (e : Env) (H : AH) (e2 : Env) (H2 : AH), Chain P cs ops k l tr e H e2 H2 → ops.toList.drop k = l →
    ∀ y ∈ tr, ∃ p, ops[y.i]? = some p ∧ y.o = compO P ops p := by
  intro l
  induction l with
  | nil =>
    intro k tr e H e2 H2 h _ y hy
    cases tr with
    | nil => simp at hy
    | cons x l => exact h.elim
  | cons o r ih =>
    intro k tr e H e2 H2 h hd y hy
    cases tr with
    | nil => exact h.elim
    | cons x l =>
      obtain ⟨e', H', h1, h2⟩ := h
      have hk : ops[k]? = some o := by
        have : (ops.toList.drop k)[0]? = some o := by rw [hd]; rfl
        simpa using this
      have hd' : ops.toList.drop (k + 1) = r := by
        have : (ops.toList.drop k).drop 1 = r := by rw [hd]; rfl
        rw [List.drop_drop] at this
        exact this
      simp only [List.mem_cons] at hy
      rcases hy with rfl | hy
      · exact ⟨o, by rw [h1.1]; exact hk, h1.2.1⟩
      · exact ih _ _ _ _ _ _ h2 hd' y hy

/- FRAMES -/

theorem envS_quiet {S : Nat → Bool} {t : Nat} : ∀ (tr : List Tr) (e : Env), okKey e.n = true → (∀ y ∈ tr, y.o.dst = some t → S y.i = false) → (envS S tr e).get t = e.get t := by
  intro tr
  induction tr with
  | nil => intro e _ _; rfl
  | cons x r ih =>
    intro e hk h
    simp only [envS]
    by_cases hs : S x.i = true
    · rw [if_pos hs, ih _ (by rw [Env.put_n]; exact hk) fun y hy => h y (List.mem_cons_of_mem x hy)]
      refine put_get_ne hk fun hd => ?_
      have := h x (by simp) hd
      rw [hs] at this
      cases this
    · rw [if_neg hs]
      exact ih e hk fun y hy => h y (List.mem_cons_of_mem x hy)

theorem envS_add {S S' : Nat → Bool} {x : Tr} : ∀ (tr : List Tr) (e : Env), okKey e.n = true → x ∈ tr → tr.Pairwise Apart → S x.i = false → S' x.i = true → (∀ y ∈ tr, y.i ≠ x.i → S' y.i = S y.i) →
    (∀ y ∈ tr, ∀ d, x.o.dst = some d → y.o.dst = some d → x.i < y.i → S y.i = false) → ∀ t, (envS S' tr e).get t = ((envS S tr e).put x.o.dst x.v).get t := by
  intro tr
  induction tr with
  | nil => intro e _ hx; simp at hx
  | cons y r ih =>
    intro e hk hx hp hS hS' hsame hlate t
    have hp' := List.pairwise_cons.1 hp
    have hsame' := fun z hz => hsame z (List.mem_cons_of_mem y hz)
    have hlate' := fun z hz => hlate z (List.mem_cons_of_mem y hz)
    simp only [List.mem_cons] at hx
    simp only [envS]
    rcases hx with rfl | hx
    · rw [hS, hS', if_pos rfl, if_neg (by simp)]
      have hr : ∀ z ∈ r, S' z.i = S z.i := fun z hz => hsame' z hz (by have := (hp'.1 z hz).1; omega)
      have hkn : okKey (envS S r e).n = true := by rw [envS_n]; exact hk
      cases hd : x.o.dst with
      | none => exact envS_get r e e hk rfl rfl fun z hz _ => hr z hz
      | some d =>
        by_cases ht : t = d
        · subst ht
          have hq : ∀ z ∈ r, z.o.dst = some t → S z.i = false := fun z hz hzd => hlate' z hz t hd hzd (hp'.1 z hz).1
          rw [envS_quiet r _ (by rw [Env.put_n]; exact hk) fun z hz hzd => by rw [hr z hz]; exact hq z hz hzd]
          rw [Env.get_put hk, Env.get_put hkn, envS_n, envS_quiet r e hk hq]
        · have hne : some d ≠ some t := fun h => ht (Option.some.inj h).symm
          rw [put_get_ne hkn hne]
          exact envS_get r _ _ (by rw [Env.put_n]; exact hk) (by rw [Env.put_n]) (put_get_ne hk hne) fun z hz _ => hr z hz
    · have hlt := (hp'.1 x hx).1
      rw [hsame y (by simp) (by omega)]
      refine ih _ ?_ hx hp'.2 hS hS' hsame' hlate' t
      split
      · rw [Env.put_n]; exact hk
      · exact hk

theorem envS_g (S : Nat → Bool) : ∀ (tr : List Tr) (e : Env), (envS S tr e).g = e.g := by
  intro tr
  induction tr with
  | nil => intro e; rfl
  | cons x r ih =>
    intro e
    simp only [envS]
    rw [ih]
    split
    · rw [Env.put_g]
    · rfl

theorem ERel.congr {ρ : Ren} {e e' : Env} {a : Act} (h : ERel ρ e a) (hn : e'.n = e.n) (hgg : e'.g = e.g) (hg : ∀ t, e'.get t = e.get t) : ERel ρ e' a :=
  ⟨h.defers, by rw [hn]; exact h.size, by rw [hn]; exact h.ok, fun k => by rw [hg]; exact h.get k, fun i => by rw [hgg]; exact h.glob i⟩

/- HOW MANY ARE LEFT -/

theorem left_lt {p q : Nat → Bool} {i : Nat} : ∀ (l : List Nat), (∀ j ∈ l, q j = true → p j = true) → i ∈ l → p i = true → q i = false → (l.filter q).length < (l.filter p).length := by
  intro l
  have hle : ∀ (l : List Nat), (∀ j ∈ l, q j = true → p j = true) → (l.filter q).length ≤ (l.filter p).length := by
    intro l
    induction l with
    | nil => intro _; simp
    | cons a l ih =>
      intro h
      have ih := ih fun j hj => h j (List.mem_cons_of_mem a hj)
      have ha := h a (by simp)
      simp only [List.filter_cons]
      cases hq : q a with
      | true => rw [ha hq]; simpa using ih
      | false =>
        cases hp : p a with
        | true => simp; omega
        | false => simpa using ih
  induction l with
  | nil => intro _ h; simp at h
  | cons a l ih =>
    intro h hi hp hq
    have h' := fun j hj => h j (List.mem_cons_of_mem a hj)
    simp only [List.mem_cons] at hi
    simp only [List.filter_cons]
    rcases hi with rfl | hi
    · rw [hp, hq]
      have := hle l h'
      simp; omega
    · have ih := ih h' hi hp hq
      cases hq2 : q a with
      | true => rw [h a (by simp) hq2]; simpa using ih
      | false =>
        cases hp2 : p a with
        | true => simp; omega
        | false => simpa using ih

theorem all_listed {ops : Array Oper} {listed : Array Bool} (he : edgesOk ops = true) (hs : listed.size = ops.size) (hr : Region.ready .any ops listed = []) : ∀ i, i < ops.size → listed.getD i false = true := by
  intro i
  induction i using Nat.strongRecOn with
  | _ i ih =>
    intro hi
    cases hq : listed.getD i false with
    | true => rfl
    | false =>
      exfalso
      have hli : i < listed.size := by omega
      have : i ∈ Region.ready .any ops listed := by
        rw [mem_ready]
        refine ⟨by simp [hli] at hq ⊢; exact hq, ops[i], Array.getElem?_eq_getElem hi, fun e hm hb => ?_⟩
        have hlt : e.on < i := by
          unfold edgesOk at he
          rw [List.all_eq_true] at he
          have h8 := he (ops[i], i) (by rw [List.mem_zipIdx_iff_getElem?]; simp [hi])
          simp only [List.all_eq_true] at h8
          have h9 := h8 e (by simpa using hm)
          rw [hb] at h9
          simpa using h9
        exact ih e.on hlt (by omega)
      rw [hr] at this
      cases this

theorem effects_pw {tr : List Tr} (h : tr.Pairwise Apart) : (effectsOf tr).Pairwise fun y z => y.1 < z.1 := by
  induction h with
  | nil => exact .nil
  | cons h1 _ ih =>
    simp only [effectsOf]
    split
    · refine .cons (fun z hz => ?_) ih
      obtain ⟨y, hy, h2, _⟩ := (mem_effects _ _).1 hz
      have := (h1 y hy).1
      simp only
      omega
    · exact ih

theorem before_size (ops : Array Oper) : (Region.before ops).size = ops.size := by
  rw [before_eq, (before_fold ops.toList #[]).1]
  simp

end
end Go.Den
