/-
  THE ENGINE, part W: a region that draws its order does what it does in the text's order.
-/
import Derived.Test.YtbpcageamcgehaaEngV
namespace Go.Den
noncomputable section

variable {P : Program}

section
variable {rec : Rec} {ops : Array Oper} {e e2 : Env} {H H2 : AH} {tr : List Tr}

theorem sameRes_spec {x : Tr} {X : AH} {r : ARes} (h : sameRes x X r = true) : r = .simple x.v x.nb ∧ ∀ b, x.nb = some b → X.get x.id = some b := by
  unfold sameRes at h
  split at h
  · rename_i v nb
    simp only [Bool.and_eq_true] at h
    obtain ⟨h1, h2⟩ := h
    have hv := beqV_eq _ _ h1
    subst hv
    split at h2
    · rename_i hn; exact ⟨by rw [hn], fun b hb => by rw [hn] at hb; cases hb⟩
    · rename_i b c hn
      simp only [Bool.and_eq_true] at h2
      obtain ⟨h3, h4⟩ := h2
      have hb := beqB_eq h3
      subst hb
      split at h4
      · rename_i d hd
        have := beqB_eq h4
        subst this
        refine ⟨by rw [hn], fun b hb => ?_⟩
        rw [hn] at hb; cases hb
        exact hd
      · cases h4
    · cases h2
  · cases h

theorem mid_step {g : Given P rec ops e H e2 H2 tr} {ρ0 ρ : Ren} {B : Nat} {w0 w : World} {S : Nat → Bool} {done todo : List (Nat × AH)} {a : Act} (hfree : Free ρ0 H.n H2.n) (m : Mid g ρ0 B w0 S done todo ρ a w) {i : Nat} {o : Oper} (hn : Next1 ops S i o)
    {K : Act → World → Prop} {Q : Exit → Act → World → Prop} (hK : ∀ done' todo' ρ' a' w', Mid g ρ0 B w0 (plus S i) done' todo' ρ' a' w' → K a' w') : wpOp P ops Q i K a w := by
  obtain ⟨x, e1, H1, e1', H1', hx, hs, he1, hle⟩ := g.chain.at g.hrec hn.op
  have hget := m.get hn
  rw [← he1] at hget
  have hs' := hs
  obtain ⟨hi, ho, hxe, hxh, hid, hwant, _, hcase⟩ := hs'
  have hguard : wantedA (compGuard ops o.guard) e1 = wantedA (compGuard ops o.guard) (envS S tr e) := by
    unfold compGuard
    cases hg : o.guard with
    | none => rfl
    | some p =>
      obtain ⟨j, want⟩ := p
      simp only [wantedA]
      cases hd : (ops[j]?).bind (·.dst) with
      | none => rfl
      | some d =>
        have := hget d (by simp [namesOf, hg, hd])
        simp only [this]
  have hopd : ∀ y ∈ o.op.operands.toList, evl (envS S tr e) y = evl e1 y := by
    intro y hy
    cases y with
    | tmp t => exact hget t (by unfold namesOf; simp only [List.mem_append, List.mem_filterMap]; exact .inr ⟨.tmp t, hy, rfl⟩)
    | const v => rfl
    | func f => rfl
    | global gg => rfl
  unfold wpOp
  simp only [hn.op]
  rw [← wanted_eq m.env ops o, ← hguard, ← hwant]
  rcases hcase with ⟨h1, h2, h3, h4, h5⟩ | ⟨h1, b, h2, h3⟩
  · rw [h1]
    exact hK _ _ _ _ _ (m.still hn hx hi ho h4 (v' := undef) (by rw [h2]; exact .flat flat_undef))
  · rw [h1]
    refine .inl ?_
    obtain ⟨ins, hcomp, hc⟩ := did_cases h2
    have hcong := fun X f => insA_congr hcomp hopd X f
    have hsimple : x.eff = none → insA P e1 H1 H1.n ins = .simple x.v x.nb → insA P (envS S tr e) (fillHeap H2.n tr (lastX H done)) x.id ins = .simple x.v x.nb ∧ (∀ b, x.nb = some b → (fillHeap H2.n tr (lastX H done)).get x.id = some b) := by
      intro heff hins
      rw [hcong]
      cases hl : looks (some ins) with
      | false =>
        obtain ⟨h6, h7⟩ := insA_indep (X := fillHeap H2.n tr (lastX H done)) hl hins
        rw [hid]
        exact ⟨h6, fun b hb => by rw [h7] at hb; cases hb⟩
      | true =>
        have hxo : x.o.ins = some ins := by rw [ho]; exact hcomp
        have h6 := sameAll_spec tr g.same x hx h1 heff (by rw [hxo]; exact hl)
        obtain ⟨pre, j, r, h7, h8, h9⟩ := heaps_split ops.size H2 tr H done todo
        rw [m.split, h7] at h6
        have h20 : ((Region.before ops).getD j 0).testBit x.i = false := by
          cases hq : ((Region.before ops).getD j 0).testBit x.i with
          | false => rfl
          | true =>
            exfalso
            rcases h8 with h8 | ⟨G, h8⟩
            · rw [h8] at hq
              have : (Region.before ops).getD ops.size 0 = 0 := by simp [before_size]
              rw [this] at hq
              simp at hq
            · have := m.closed _ _ (m.past _ h8) hq
              rw [hi, hn.new] at this; cases this
        have h21 : ∀ y ∈ r, ((Region.before ops).getD x.i 0).testBit y.1 = false := by
          intro y hy
          cases hq : ((Region.before ops).getD x.i 0).testBit y.1 with
          | false => rfl
          | true =>
            exfalso
            rw [hi] at hq
            have h12 := hn.ahead _ hq
            obtain ⟨G, h13⟩ := h9 y hy
            rw [m.rest _ h13] at h12; cases h12
        obtain ⟨ins2, h10, h11⟩ := sameAt_spec pre j _ r h6 h20 h21
        rw [hxo] at h10
        cases h10
        rw [hxe] at h11
        exact sameRes_spec h11
    rcases hc with ⟨h6, h7, h8, h9⟩ | ⟨blk, h6, h7, h8, h9, h10⟩ | ⟨h6, h7⟩
    · have heff : x.eff = none := by rw [h3, h7]; rfl
      obtain ⟨h11, h12⟩ := hsimple heff (by rw [h6]; exact h9)
      have key := comp_sound (fresh := x.id) m.rel m.env hcomp
      rw [h11, h6] at key
      obtain ⟨v', k1, k2⟩ := key
      show o.upon P a K Q ((execOp a.eval o).run P w)
      rw [k1]
      exact hK _ _ _ _ _ (m.still hn hx hi ho heff k2)
    · have heff : x.eff = none := by rw [h3, h7]; rfl
      obtain ⟨h11, h12⟩ := hsimple heff (by rw [h6]; exact h10)
      have key := comp_sound (fresh := x.id) m.rel m.env hcomp
      rw [h11, h6] at key
      obtain ⟨v', w', obj, l, k1, k2, k6, k3, k4, k5⟩ := key
      show o.upon P a K Q ((execOp a.eval o).run P w)
      rw [k1]
      exact hK _ _ _ _ _ (m.block hfree hn hx hi ho heff h6 k2 k6 k3 k4 (h12 _ h6))
    · have heff : x.eff = some H1' := by rw [h3, h7]; rfl
      have hmono := hs.mono g.hrec
      obtain ⟨k1, k2, k3⟩ := m.effect hfree hn hx hi ho heff hle (by rw [hid, hxh]) (by rw [hxh]; exact hmono)
      have hstep := step_ok (o := o) (e := envS S tr e) (H := H1) g.hrec
      have hsame : stepA P rec (envS S tr e) H1 (comp P o) = stepA P rec e1 H1 (comp P o) := by
        rw [hcomp]
        show didRes rec H1 (insA P (envS S tr e) H1 H1.n ins) = didRes rec H1 (insA P e1 H1 H1.n ins)
        rw [hcong]
      rw [hsame, h2] at hstep
      rw [hxh] at k1 k2 k3
      refine hstep.2 ρ B w a K Q k1 m.env k2 fun ρ' v' w' hv hp => ?_
      obtain ⟨done', todo', k4⟩ := k3 ρ' v' w' hv hp
      exact hK _ _ _ _ _ k4

theorem plus_listed {listed : Array Bool} {i : Nat} (hi : i < listed.size) : (fun j => (listed.setIfInBounds i true).getD j false) = plus (fun j => listed.getD j false) i := by
  funext j
  unfold plus
  by_cases h : j = i
  · subst h
    simp [hi]
  · rw [if_neg h]
    exact getD_set_ne false fun h' => h h'.symm

theorem any_ok {g : Given P rec ops e H e2 H2 tr} {ρ0 : Ren} {B : Nat} {w0 : World} (hfree : Free ρ0 H.n H2.n) {Q : Exit → Act → World → Prop}
    (hQ : ∀ ρ' a' w', ERel ρ' e2 a' → Rel ρ' B (fillHeap H2.n tr (lastX H (effectsOf tr))) w' → Ext ρ0 H w0 ρ' (fillHeap H2.n tr (lastX H (effectsOf tr))) w' → Q .normal a' w') :
    ∀ (fuel : Nat) (listed : Array Bool) (done todo : List (Nat × AH)) (ρ : Ren) (a : Act) (w : World), listed.size = ops.size → ((List.range ops.size).filter fun j => !listed.getD j false).length ≤ fuel →
      Mid g ρ0 B w0 (fun j => listed.getD j false) done todo ρ a w → wpAny P .any ops Q fuel listed a w := by
  intro fuel
  have hend : ∀ (listed : Array Bool) (done todo : List (Nat × AH)) (ρ : Ren) (a : Act) (w : World), (∀ i, i < ops.size → listed.getD i false = true) → Mid g ρ0 B w0 (fun j => listed.getD j false) done todo ρ a w → Q .normal a w := by
    intro listed done todo ρ a w hall m
    have htodo : todo = [] := by
      cases todo with
      | nil => rfl
      | cons y r =>
        exfalso
        have h1 : y ∈ effectsOf tr := by rw [m.split]; simp
        obtain ⟨z, hz, h2, _⟩ := (mem_effects _ _).1 h1
        obtain ⟨p, hp, _⟩ := g.chain.oper _ _ _ _ _ _ _ rfl z hz
        have h3 := hall z.i (Array.getElem?_eq_some_iff.1 hp).1
        have h4 : listed.getD y.1 false = false := m.rest y (by simp)
        rw [h2] at h3
        rw [h3] at h4; cases h4
    have hdone : done = effectsOf tr := by rw [m.split, htodo]; simp
    have he : envS (fun j => listed.getD j false) tr e = e2 := by
      refine g.chain.envS_upto _ _ _ _ _ _ _ fun x hx => ?_
      obtain ⟨p, hp, _⟩ := g.chain.oper _ _ _ _ _ _ _ rfl x hx
      exact hall x.i (Array.getElem?_eq_some_iff.1 hp).1
    refine hQ ρ a w ?_ ?_ ?_
    · rw [← he]; exact m.env
    · rw [← hdone]; exact m.rel
    · rw [← hdone]; exact m.ext
  induction fuel with
  | zero =>
    intro listed done todo ρ a w hsz hcnt m
    have hall : ∀ i, i < ops.size → listed.getD i false = true := by
      intro i hi
      cases hq : listed.getD i false with
      | true => rfl
      | false =>
        exfalso
        have h1 : i ∈ (List.range ops.size).filter fun j => !listed.getD j false := by simp only [List.mem_filter, List.mem_range, hq]; exact ⟨hi, rfl⟩
        have h2 := List.length_pos_of_mem h1
        omega
    refine ⟨?_, hend listed done todo ρ a w hall m⟩
    cases hr : Region.ready .any ops listed with
    | nil => rfl
    | cons j r =>
      exfalso
      have h1 : j ∈ Region.ready .any ops listed := by rw [hr]; simp
      obtain ⟨h2, o, h3, _⟩ := mem_ready.1 h1
      have h4 := (Array.getElem?_eq_some_iff.1 h3).1
      have h5 := hall j h4
      have h6 : j < listed.size := by omega
      simp [h6] at h2 h5
      rw [h2] at h5; cases h5
  | succ fuel ih =>
    intro listed done todo ρ a w hsz hcnt m
    refine ⟨fun hr => hend listed done todo ρ a w (all_listed g.edges hsz hr) m, fun i hi => ?_⟩
    obtain ⟨h2, o, h3, h4⟩ := mem_ready.1 hi
    have hlt := (Array.getElem?_eq_some_iff.1 h3).1
    have hlt2 : i < listed.size := by omega
    have hnew : listed.getD i false = false := by simp [hlt2] at h2 ⊢; exact h2
    have hnext : Next1 ops (fun j => listed.getD j false) i o := by
      refine ⟨h3, hnew, fun j hj => ?_⟩
      obtain ⟨ed, h5, h6, _, h7⟩ := bef_edge g.edges h3 hj
      have h8 := h4 ed (by simpa using h5) h6
      rcases h7 with h7 | h7
      · rw [← h7]; exact h8
      · exact m.closed j ed.on h8 h7
    refine mid_step hfree m hnext fun done' todo' ρ' a' w' m' => ?_
    rw [← plus_listed hlt2] at m'
    refine ih _ done' todo' ρ' a' w' (by simp [hsz]) ?_ m'
    have hl := left_lt (p := fun j => !listed.getD j false) (q := fun j => !(listed.setIfInBounds i true).getD j false) (i := i) (List.range ops.size) ?_ (by simpa using hlt) (by simp only [hnew]; rfl) ?_
    · omega
    · intro j _ hj
      cases hq : listed.getD j false with
      | false => rfl
      | true => rw [getD_set_true hq] at hj; cases hj
    · have := congrFun (plus_listed hlt2) i
      simp only [plus, if_true] at this
      rw [this]; rfl

end

/-- A region that draws its order. -/
theorem draw_ok {rec : Rec} (hrec : RecOK P rec) (hm : P.follows .mixedOrders = true) (id : Nat) (ops : Array Oper) (e : Env) (H : AH) (e' : Env) (H' : AH) (h : drawA P rec ops e H = some (e', H')) :
    H.n ≤ H'.n ∧ ∀ (ρ : Ren) (B : Nat) (w : World) (a : Act) (Q : Exit → Act → World → Prop), Rel ρ B H w → ERel ρ e a → Free ρ H.n H'.n →
      (∀ ρ' a' w', ERel ρ' e' a' → Post ρ B H w ρ' H' w' → Q .normal a' w') → (Code.region id ops true).wp P Q a w := by
  unfold drawA at h
  cases hq : opsT P rec (compOps P ops ops.toList) 0 e H with
  | none => rw [hq] at h; cases h
  | some r =>
    obtain ⟨e2, H2, tr⟩ := r
    rw [hq] at h
    simp only [drawK] at h
    cases hc : (staticOk ops && (chained (Region.before ops) (effectsOf tr) && sameAll P (Region.before ops) (heaps ops.size H2 tr H (effectsOf tr)) tr)) with
    | false => rw [hc, cond_false] at h; cases h
    | true =>
      rw [hc, cond_true] at h
      simp only [staticOk, Bool.and_eq_true] at hc
      simp only [Option.some.injEq, Prod.mk.injEq] at h
      obtain ⟨he', hH'⟩ := h
      rw [lastX_heaps] at hH'
      have hchain := opsT_chain _ _ _ _ _ _ _ hq
      have g : Given P rec ops e H e2 H2 tr := ⟨hrec, hchain, hc.1.1, hc.1.2, hc.2.1, hc.2.2⟩
      have hfn : H'.n = H2.n := by rw [← hH']; exact fill_n _ _ _
      have hmono := (hchain.mono hrec _ _ _ _ _ _ _).1
      refine ⟨by omega, fun ρ B w a Q hR hE hfree hQ => wp_region_any hm ?_⟩
      rw [hfn] at hfree
      have hinv : ∀ id b, (fillHeap H2.n tr H).get id = some b → H.get id = some b ∨ (H.n ≤ id ∧ id < H2.n ∧ ∀ c, b = .cells c → c.WF) := by
        intro id b hb
        rcases fill_inv _ _ _ _ _ g.keys hb with h | ⟨y, hy, h1, h2, h3⟩
        · exact .inl h
        · have := ((hchain.mono hrec _ _ _ _ _ _ _).2 y hy).2.2 (by rw [h1]; simp)
          exact .inr ⟨h3, by omega, fun c hc => g.wf hy (by rw [h1, hc])⟩
      have hR0 : Rel ρ B (fillHeap H2.n tr H) { w with drawn := w.drawn + 1 } := by
        have hd : Rel ρ B H { w with drawn := w.drawn + 1 } := drew_rel hR
        refine ⟨?_, ?_, ?_, hd.sep, hd.bnd, hd.base⟩
        · intro id ver l b hl hb
          rcases hinv id b hb with h | ⟨h1, h2, _⟩
          · exact hd.blk id ver l b hl h
          · rw [hfree id ver h1 h2] at hl; cases hl
        · intro id c hc
          rcases hinv id _ hc with h | ⟨_, _, h⟩
          · exact hd.wf id c h
          · exact h c rfl
        · intro id b hb
          rw [fill_n]
          rcases hinv id b hb with h | ⟨_, h, _⟩
          · have := hd.low id b h; omega
          · exact h
      refine any_ok (g := g) (w0 := w) (ρ0 := ρ) (B := B) hfree (fun ρ' a' w' h1 h2 h3 => hQ ρ' a' w' (by rw [← he']; exact h1) ⟨by rw [← hH']; exact h2, by rw [← hH']; exact h3⟩) ops.size (Array.replicate ops.size false) [] (effectsOf tr) ρ a _ (by simp) ?_ ?_
      · exact Nat.le_trans (List.length_filter_le _ _) (by simp)
      · have hS : ∀ j, (Array.replicate ops.size false).getD j false = false := by
          intro j
          by_cases h : j < ops.size <;> simp [h]
        refine ⟨fun i j h => ?_, by simp, fun y hy => by simp at hy, fun y _ => hS y.1, hR.low, hR0, ?_, ?_, ?_⟩
        · simp only [hS] at h; cases h
        · refine ⟨.refl ρ, Nat.le_refl _, fun _ _ _ => rfl, fun id ver l h h' => (by rw [h] at h'; cases h'), fun id ver l h h' => (by rw [h] at h'; cases h'), ?_, ?_, ?_, ⟨rfl, rfl⟩⟩
          · rw [fill_n]; exact hmono
          · intro id h1
            obtain ⟨b, hb⟩ := Option.isSome_iff_exists.1 h1
            rw [show lastX H [] = H from rfl, fill_low _ _ _ g.keys id (hR.low id b hb)]
            exact h1
          · intro id h1
            obtain ⟨b, hb⟩ := Option.isSome_iff_exists.1 h1
            rcases hinv id b hb with h | ⟨h, _⟩
            · exact .inl (by rw [h]; rfl)
            · exact .inr h
        · intro id ver l h1 h2 h3
          rw [hfree id ver h1 h2] at h3; cases h3
        · rw [envS_none _ _ _ fun y _ => hS y.i]
          exact hE

end
end Go.Den
