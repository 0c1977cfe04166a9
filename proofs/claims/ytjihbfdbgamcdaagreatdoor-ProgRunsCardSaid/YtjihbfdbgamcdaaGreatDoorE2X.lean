/-
  THE ENGINE, part X: what the abstract run gives, the machine gives.
-/
import Derived.Test.YtjihbfdbgamcdaaGreatDoorE2Rc
import Derived.Test.YtjihbfdbgamcdaaGreatDoorE2W
import Derived.LoopN
namespace Go.Den
noncomputable section

variable {P : Program}

theorem wpm {c : Code} {Q Q' : Exit → Act → World → Prop} {a : Act} {w : World} (h : c.wp P Q a w) (hq : ∀ e a w, Q e a w → Q' e a w) : c.wp P Q' a w :=
  fun b k cs => let ⟨e, a', w', q, arr⟩ := h b k cs; ⟨e, a', w', hq _ _ _ q, arr⟩

theorem rounds_mono {c : Code} {Q Q' : Exit → Act → World → Prop} (hq : ∀ e a w, Q e a w → Q' e a w) : ∀ (n : Nat) (a : Act) (w : World), Code.rounds P c Q n a w → Code.rounds P c Q' n a w := by
  intro n
  induction n with
  | zero => intro a w h; exact h
  | succ n ih =>
    intro a w h
    refine wpm h fun e a w he => ?_
    cases e with
    | normal => exact ih a w he
    | _ => exact hq _ _ _ he

def exitOf : AExit → Exit
  | .normal => .normal
  | .exit id => .exit id
  | .goto l => .goto l
  | .ret => .ret

theorem exit_then {Q : Exit → Act → World → Prop} {K : Act → World → Prop} {x : AExit} (hx : x ≠ .normal) {a : Act} {w : World} (h : Q (exitOf x) a w) : Exit.then K Q (exitOf x) a w := by
  cases x with
  | normal => exact absurd rfl hx
  | _ => exact h

/-- How a text's run ends. -/
def CodePost (p : Nat) (ρ : Ren) (B : Nat) (H : AH) (w : World) (x : AExit) (e' : Env) (H' : AH) : Exit → Act → World → Prop :=
  fun ex a' w' => ex = exitOf x ∧ ∃ ρ', ERel ρ' e' a' ∧ Rel ρ' B H' w' ∧ Bd ρ' H' ∧ Ext2 p ρ H w ρ' H' w'

structure CodeOK (P : Program) (p : Nat) (c : Code) (e : Env) (H : AH) (x : AExit) (e' : Env) (H' : AH) : Prop where
  g : e'.g = e.g
  sz : e'.n = e.n
  n : p ≤ H'.n
  run : ∀ (ρ : Ren) (B : Nat) (w : World) (a : Act), Rel ρ B H w → Bd ρ H → ERel ρ e a → c.wp P (CodePost p ρ B H w x e' H') a w

structure LoopOK (P : Program) (p : Nat) (c : Code) (e : Env) (H : AH) (x : AExit) (e' : Env) (H' : AH) : Prop where
  nx : x ≠ .normal
  g : e'.g = e.g
  sz : e'.n = e.n
  n : p ≤ H'.n
  run : ∃ n, ∀ (ρ : Ren) (B : Nat) (w : World) (a : Act), Rel ρ B H w → Bd ρ H → ERel ρ e a → Code.rounds P c (CodePost p ρ B H w x e' H') n a w

/-- What a task comes to. -/
structure RecOK (P : Program) (G : Nat → Option (List Value)) (rec : Rec) : Prop where
  calls : RecCalls P G rec
  loops : ∀ f p c e H o H', rec (.loop f p c e) H = some (o, H') → p ≤ H.n → e.g.1 = G → ∃ x e', o = .code x e' ∧ LoopOK P p c e H x e' H'

theorem CodePost.next {p : Nat} {ρ ρ1 : Ren} {B : Nat} {H H1 H' : AH} {w w1 : World} {x : AExit} {e' : Env} {a2 : Act} {w2 : World} {ex : Exit} (hp : Ext2 p ρ H w ρ1 H1 w1) (h : CodePost p ρ1 B H1 w1 x e' H' ex a2 w2) : CodePost p ρ B H w x e' H' ex a2 w2 := by
  obtain ⟨h1, ρ2, h2, h3, h4, h5⟩ := h
  exact ⟨h1, ρ2, h2, h3, h4, hp.trans h5⟩

theorem post_code {p : Nat} {ρ ρ1 : Ren} {B : Nat} {H H1 : AH} {w w1 : World} {e1 : Env} {a1 : Act} (hp : p ≤ H.n) (hb : Bd ρ H) (hR : Rel ρ B H w) (hE : ERel ρ1 e1 a1) (h : Post ρ B H w ρ1 H1 w1) : CodePost p ρ B H w .normal e1 H1 .normal a1 w1 :=
  ⟨rfl, ρ1, hE, h.rel, hb.next hR.low h.ext, h.ext.weak hp⟩

/- OTHER NUMBERS -/

theorem turn_ext {H : AH} {p : Nat} {vs : List Value} {N : Nrm} (h : normA H p vs = some N) {ρ : Ren} {B : Nat} {w : World} (hR : Rel ρ B H w) :
    Ext2 p ρ H w (turned ρ H N.L (cmpsOf H (refsL vs ++ blocksRefs H N.L) p N.L 0)) N.H w := by
  obtain ⟨q1, q2, q3, q4, q5, q6, q7, q8, q9, q10, q11, q12⟩ := norm_ok h hR
  generalize cmpsOf H (refsL vs ++ blocksRefs H N.L) p N.L 0 = cs at *
  have src : ∀ {ix ver : Nat} {l : Loc}, turned ρ H N.L cs ix ver = some l → ∃ id ver0, N.L[ix]? = some id ∧ ρ id ver0 = some l := by
    intro ix ver l hl
    simp only [turned] at hl
    cases hx : N.L[ix]? with
    | none => rw [hx] at hl; cases hl
    | some id =>
      rw [hx] at hl
      simp only at hl
      cases hc : cmpAt id cs with
      | false => rw [hc, cond_false] at hl; exact ⟨id, _, rfl, hl⟩
      | true =>
        rw [hc, cond_true] at hl
        split at hl
        · exact ⟨id, _, rfl, hl⟩
        · cases hl
  refine ⟨?_, fun _ _ _ h => h, Nat.le_refl _, fun _ _ _ => rfl, ?_, ?_, ⟨rfl, rfl⟩, fun _ _ _ h => .inl h, ?_⟩
  · intro id ver l hid hl
    simp only [turned, q9 id hid]
    cases hc : cmpAt id cs with
    | false => rw [cond_false]; exact hl
    | true =>
      have := (q12 id id (q9 id hid) hc).1
      omega
  · intro ix ver l hl
    obtain ⟨id, ver0, h1, h2⟩ := src hl
    exact .inr ⟨id, ver0, l, h2, rfl⟩
  · intro ix ver l hix hl
    obtain ⟨id, ver0, h1, h2⟩ := src hl
    rw [q9 ix hix] at h1
    cases h1
    exact ⟨ver0, l, h2⟩
  · intro ix hix _
    exact q8 ix (by omega)

/- FRAMES -/

theorem junkL_get : ∀ (n : Nat) (t : T Value), okKey n = true → ∀ k, (junkL n t).get k = if k < n then some JK else t.get k := by
  intro n
  induction n with
  | zero => intro t _ k; rw [if_neg (by omega)]; rfl
  | succ n ih =>
    intro t hk k
    have e : junkL (n + 1) t = junkL n (T.put JK 40 t n) := rfl
    rw [e, ih _ (okKey_lt hk (by omega)), T.get_put' (okKey_lt hk (by omega))]
    by_cases h1 : k < n
    · rw [if_pos h1, if_pos (by omega)]
    · rw [if_neg h1]
      by_cases h2 : k = n
      · subst h2; rw [if_pos rfl, if_pos (by omega)]
      · rw [if_neg h2, if_neg (by omega)]

theorem putL_get : ∀ (lv : List Tmp) (vs : List Value) (t : T Value), (∀ k ∈ lv, okKey k = true) → lv.length = vs.length → ∀ k, (k ∉ lv ∧ (putL lv vs t).get k = t.get k) ∨ ∃ (i : Nat) (v : Value), lv[i]? = some k ∧ vs[i]? = some v ∧ (putL lv vs t).get k = some v := by
  intro lv
  induction lv with
  | nil => intro vs t _ _ k; cases vs <;> exact .inl ⟨by simp, rfl⟩
  | cons a lv ih =>
    intro vs t hk hl k
    cases vs with
    | nil => simp at hl
    | cons v vs =>
      simp only [putL]
      rcases ih vs (T.put v 40 t a) (fun k h => hk k (by simp [h])) (by simpa using hl) k with ⟨h1, h2⟩ | ⟨i, u, h1, h2, h3⟩
      · rw [T.get_put' (hk a (by simp))] at h2
        by_cases hka : k = a
        · subst hka
          rw [if_pos rfl] at h2
          exact .inr ⟨0, v, rfl, rfl, h2⟩
        · rw [if_neg hka] at h2
          exact .inl ⟨by simp [hka, h1], h2⟩
      · exact .inr ⟨i + 1, u, by simpa using h1, by simpa using h2, h3⟩

theorem evs_get (e : Env) : ∀ (lv : List Tmp) (i : Nat), (evs e lv)[i]? = (lv[i]?).map e.get := by
  intro lv
  induction lv with
  | nil => intro i; simp [evs]
  | cons a lv ih => intro i; cases i with
    | zero => simp [evs]
    | succ i => simp [evs, ih]

theorem evs_length (e : Env) (lv : List Tmp) : (evs e lv).length = lv.length := by
  induction lv with
  | nil => rfl
  | cons a lv ih => simp [evs, ih]

/-- A frame of what lives alone. -/
theorem envL_rel {ρ ρ' : Ren} {e : Env} {a : Act} (hE : ERel ρ e a) {lv : List Tmp} (hl : lvOk e.n lv = true) {vs : List Value} (hlen : vs.length = lv.length) (hv : ∀ (i : Nat) (k : Tmp) (v : Value), lv[i]? = some k → vs[i]? = some v → ∀ v', VR ρ (e.get k) v' → VR ρ' v v') (hc : ∀ b i v, ρ.cell b i = some v → ρ'.cell b i = some v) :
    ERel ρ' (envL e.n e.g lv vs) a := by
  have hlt : ∀ k ∈ lv, k < e.n := fun k hk => by
    unfold lvOk at hl
    exact Nat.le_of_ble_eq_true (list_all hl k hk)
  refine ⟨hE.defers, hE.size, hE.ok, fun k => ?_, fun i => ?_⟩
  · simp only [envL, Env.get]
    rcases putL_get lv vs (junkL e.n .leaf) (fun k hk => okKey_lt hE.ok (Nat.le_of_lt (hlt k hk))) hlen.symm k with ⟨h1, h2⟩ | ⟨i, v, h1, h2, h3⟩
    · rw [h2, junkL_get _ _ hE.ok]
      by_cases h3 : k < e.n
      · rw [if_pos h3]; exact .junk
      · rw [if_neg h3]
        have : a.tmps.getD k undef = undef := by have := hE.size; simp [Array.getD_eq_getD_getElem?]; rw [Array.getElem?_eq_none (by omega)]; rfl
        rw [this]
        exact .flat flat_undef
    · rw [h3]
      exact hv i k v h1 h2 _ (hE.get k)
  · refine (hE.glob i).reloc hc ?_
    show noRefs (globV (e.g.1 i)) = true
    cases e.g.1 i <;> rfl

theorem Rel.same {ρ : Ren} {B : Nat} {H H' : AH} {w : World} (hR : Rel ρ B H w) (hn : H'.n = H.n) (hg : ∀ id, H'.get id = H.get id) : Rel ρ B H' w :=
  ⟨fun id ver l b h1 h2 => hR.blk id ver l b h1 (by rw [← hg]; exact h2), fun id b h => hR.wf id b (by rw [← hg]; exact h), fun id b h => by rw [hn]; exact hR.low id b (by rw [← hg]; exact h), hR.sep, hR.bnd, hR.base, ⟨hR.fz.cell, fun id ver l i v b h1 h2 h3 => hR.fz.sep id ver l i v b h1 h2 (by rw [← hg]; exact h3)⟩⟩

theorem getsA_spec (H : AH) : ∀ (d k : Nat), (getsA H k d).length = d ∧ ∀ i, i < d → (getsA H k d)[i]? = some (H.get (k + i)) := by
  intro d
  induction d with
  | zero => intro k; exact ⟨rfl, fun i h => by omega⟩
  | succ d ih =>
    intro k
    have e : getsA H k (d + 1) = H.get k :: getsA H (k + 1) d := rfl
    obtain ⟨h1, h2⟩ := ih (k + 1)
    rw [e]
    refine ⟨by simp [h1], fun i hi => ?_⟩
    cases i with
    | zero => rfl
    | succ i => rw [List.getElem?_cons_succ, h2 i (by omega), show k + 1 + i = k + (i + 1) by omega]

theorem rebuilt {H : AH} (hl : Low H) {k : Nat} (hk : H.n = k) (ho : okKey k = true) : (heapOf (getsA H 0 k) AH0).n = H.n ∧ ∀ id, (heapOf (getsA H 0 k) AH0).get id = H.get id := by
  obtain ⟨g1, g2⟩ := getsA_spec H k 0
  obtain ⟨h1, h2, h3⟩ := heapOf_spec (getsA H 0 k) AH0 (by rw [g1]; simpa [AH0] using ho) low_AH0
  refine ⟨by rw [h1, g1]; simp [AH0, hk], fun id => ?_⟩
  rw [h3, if_neg (by simp [AH0])]
  rw [show id - AH0.n = id by simp [AH0]]
  by_cases hi : id < k
  · rw [g2 id hi]; simp
  · rw [List.getElem?_eq_none (by omega)]
    cases hq : H.get id with
    | none => rfl
    | some b => have := hl id b hq; omega

/- TEXTS -/

theorem seqK_some {R : Type} {K1 : KR R} {K : KC R} {x : AExit} {e : Env} {H : AH} {r : R} (h : seqK K1 K x e H = some r) : (x = .normal ∧ K1 e H = some r) ∨ (x ≠ .normal ∧ K x e H = some r) := by
  cases x with
  | normal => exact .inl ⟨rfl, h⟩
  | _ => exact .inr ⟨(fun h => by cases h), h⟩

theorem codeA_ok {R : Type} {cfg : Cfg} {f : FuncId} {p : Nat} {rec : Rec} {G : Nat → Option (List Value)} (hrec : RecOK P G rec) (hknow : KnowOK P G cfg.know) (hm : P.follows .mixedOrders = true) {r : R} : ∀ (c : Code) (K : KC R) (e : Env) (H : AH), p ≤ H.n → e.g.1 = G → codeA P cfg f p rec c K e H = some r →
    ∃ x e' H', K x e' H' = some r ∧ CodeOK P p c e H x e' H' := by
  intro c
  induction c with
  | skip => intro K e H hp hg h; exact ⟨_, _, _, h, rfl, rfl, hp, fun ρ B w a hR hb hE => wp_skip ⟨rfl, ρ, hE, hR, hb, .refl _ _ _ _⟩⟩
  | label l => intro K e H hp hg h; exact ⟨_, _, _, h, rfl, rfl, hp, fun ρ B w a hR hb hE => wp_label ⟨rfl, ρ, hE, hR, hb, .refl _ _ _ _⟩⟩
  | ret => intro K e H hp hg h; exact ⟨_, _, _, h, rfl, rfl, hp, fun ρ B w a hR hb hE => wp_ret ⟨rfl, ρ, hE, hR, hb, .refl _ _ _ _⟩⟩
  | exit id => intro K e H hp hg h; exact ⟨_, _, _, h, rfl, rfl, hp, fun ρ B w a hR hb hE => wp_exit ⟨rfl, ρ, hE, hR, hb, .refl _ _ _ _⟩⟩
  | goto l => intro K e H hp hg h; exact ⟨_, _, _, h, rfl, rfl, hp, fun ρ B w a hR hb hE => wp_goto ⟨rfl, ρ, hE, hR, hb, .refl _ _ _ _⟩⟩
  | region id ops drawn =>
    intro K e H hp hg h
    simp only [codeA] at h
    cases drawn with
    | false =>
      rw [cond_false] at h
      obtain ⟨e', H', h1, h2, hz, h3, h4⟩ := ops_ok (callS_ok hrec.calls hknow) ops ops.toList 0 e H hg rfl h
      refine ⟨_, e', H', h1, h2, hz, Nat.le_trans hp h3, fun ρ B w a hR hb hE => wp_region ?_⟩
      have := h4 ρ B w a (CodePost p ρ B H w .normal e' H') hR hE (hb.free _) fun ρ' a' w' h5 h6 => post_code hp hb hR h5 h6
      rw [List.range_eq_range', ← Array.length_toList]
      exact this
    | true =>
      rw [cond_true] at h
      obtain ⟨e', H', h1, h2, hz, h3, h4⟩ := draw_ok (callS_ok hrec.calls hknow) hm id ops e H hg h
      exact ⟨_, e', H', h1, h2, hz, Nat.le_trans hp h3, fun ρ B w a hR hb hE => h4 ρ B w a (CodePost p ρ B H w .normal e' H') hR hE (hb.free _) fun ρ' a' w' h5 h6 => post_code hp hb hR h5 h6⟩
  | seq c d ihc ihd =>
    intro K e H hp hg h
    simp only [codeA] at h
    obtain ⟨x1, e1, H1, h1, k1⟩ := ihc _ e H hp hg h
    rcases seqK_some h1 with ⟨rfl, h2⟩ | ⟨hx, h2⟩
    · obtain ⟨x, e', H', h3, k2⟩ := ihd K e1 H1 k1.n (by rw [k1.g]; exact hg) h2
      refine ⟨x, e', H', h3, k2.g.trans k1.g, k2.sz.trans k1.sz, k2.n, fun ρ B w a hR hb hE => wp_seq ?_⟩
      refine wpm (k1.run ρ B w a hR hb hE) ?_
      rintro ex a1 w1 ⟨rfl, ρ1, h4, h5, h6, h7⟩
      exact wpm (k2.run ρ1 B w1 a1 h5 h6 h4) fun ex a2 w2 h8 => h8.next h7
    · refine ⟨x1, e1, H1, h2, k1.g, k1.sz, k1.n, fun ρ B w a hR hb hE => wp_seq ?_⟩
      refine wpm (k1.run ρ B w a hR hb hE) ?_
      rintro ex a1 w1 ⟨rfl, h4⟩
      exact exit_then hx ⟨rfl, h4⟩
  | cond c a b iha ihb =>
    intro K e H hp hg h
    simp only [codeA] at h
    cases hok : okOpd c with
    | false => rw [hok, cond_false] at h; cases h
    | true =>
      rw [hok, cond_true] at h
      unfold condV at h
      split at h
      · rename_i hb
        obtain ⟨x, e', H', h1, k1⟩ := iha K e H hp hg h
        refine ⟨x, e', H', h1, k1.g, k1.sz, k1.n, fun ρ B w a' hR hbd hE => ?_⟩
        have hv := evl_rel hE c hok
        rw [hb] at hv
        exact wp_cond (hv.of_flat rfl) (k1.run ρ B w a' hR hbd hE)
      · rename_i hb
        obtain ⟨x, e', H', h1, k1⟩ := ihb K e H hp hg h
        refine ⟨x, e', H', h1, k1.g, k1.sz, k1.n, fun ρ B w a' hR hbd hE => ?_⟩
        have hv := evl_rel hE c hok
        rw [hb] at hv
        exact wp_cond (hv.of_flat rfl) (k1.run ρ B w a' hR hbd hE)
      · cases h
  | block id c ih =>
    intro K e H hp hg h
    simp only [codeA] at h
    obtain ⟨x1, e1, H1, h1, k1⟩ := ih _ e H hp hg h
    have other : (∀ j, x1 ≠ .exit j) → K x1 e1 H1 = some r → ∃ x e' H', K x e' H' = some r ∧ CodeOK P p (.block id c) e H x e' H' := by
      intro hx hk
      refine ⟨x1, e1, H1, hk, k1.g, k1.sz, k1.n, fun ρ B w a hR hb hE => wp_block ?_⟩
      refine wpm (k1.run ρ B w a hR hb hE) ?_
      rintro ex a1 w1 ⟨rfl, h4⟩
      cases x1 with
      | exit j => exact absurd rfl (hx j)
      | _ => exact ⟨rfl, h4⟩
    cases x1 with
    | exit j =>
      simp only [blockK] at h1
      cases hj : Nat.beq j id with
      | true =>
        rw [hj, cond_true] at h1
        have hj := Nat.eq_of_beq_eq_true hj
        refine ⟨.normal, e1, H1, h1, k1.g, k1.sz, k1.n, fun ρ B w a hR hb hE => wp_block ?_⟩
        refine wpm (k1.run ρ B w a hR hb hE) ?_
        rintro ex a1 w1 ⟨rfl, h4⟩
        simp only [exitOf, Exit.inBlock, hj, if_true]
        exact ⟨rfl, h4⟩
      | false =>
        rw [hj, cond_false] at h1
        have hj : ¬ j = id := fun h => by rw [h] at hj; simp at hj
        refine ⟨.exit j, e1, H1, h1, k1.g, k1.sz, k1.n, fun ρ B w a hR hb hE => wp_block ?_⟩
        refine wpm (k1.run ρ B w a hR hb hE) ?_
        rintro ex a1 w1 ⟨rfl, h4⟩
        simp only [exitOf, Exit.inBlock, hj, if_false]
        exact ⟨rfl, h4⟩
    | normal => exact other (fun j h => by cases h) h1
    | goto l => exact other (fun j h => by cases h) h1
    | ret => exact other (fun j h => by cases h) h1
  | loop c _ =>
    intro K e H hp hg h
    simp only [codeA] at h
    unfold loopA at h
    split at h
    · rename_i ins outs k _
      cases hlv : (lvOk e.n ins && lvOk e.n outs) with
      | false => rw [hlv, cond_false] at h; cases h
      | true =>
        rw [hlv, cond_true] at h
        simp only [Bool.and_eq_true] at hlv
        cases hN : normA H p (evs e ins) with
        | none => rw [hN] at h; cases h
        | some N =>
          rw [hN] at h
          simp only [loopN] at h
          cases hr : rec (.loop f p c (envL e.n e.g ins (renVL N.m (evs e ins)))) N.H with
          | none => rw [hr] at h; cases h
          | some q =>
            obtain ⟨o, H1⟩ := q
            rw [hr] at h
            obtain ⟨x, e1, rfl, k1⟩ := hrec.loops _ _ _ _ _ _ _ hr (norm_n hN) hg
            simp only [loopK] at h
            cases hany : Nat.beq k 999999 with
            | true =>
              rw [hany, cond_true] at h
              refine ⟨x, _, _, h, rfl, rfl, k1.n, fun ρ B w a hR hb hE => ?_⟩
              obtain ⟨q1, q2, q3, q4, _⟩ := norm_ok hN hR
              have hX := turn_ext hN hR
              have hE0 : ERel (turned ρ H N.L (cmpsOf H (refsL (evs e ins) ++ blocksRefs H N.L) p N.L 0)) (envL e.n e.g ins (renVL N.m (evs e ins))) a := by
                refine envL_rel hE hlv.1 (by rw [renVL_length, evs_length]) (fun i t v h1 h2 v' hv => ?_) hX.cell
                rw [renVL_get, evs_get, h1] at h2
                simp only [Option.map_some, Option.some.injEq] at h2
                subst h2
                exact q4 _ _ (List.mem_of_getElem? (i := i) (by rw [evs_get, h1]; rfl)) hv
              obtain ⟨n, k2⟩ := k1.run
              refine wp_loop_rounds n (rounds_mono (fun ex a1 w1 h5 => ?_) n _ _ (k2 _ B w a q1 q2 hE0))
              obtain ⟨rfl, ρ1, g1, g2, g3, g4⟩ := h5
              refine ⟨rfl, ρ1, ?_, g2, g3, hX.trans g4⟩
              have hsz : e1.n = e.n := k1.sz
              have hlv2 : lvOk e1.n outs = true := by rw [hsz]; exact hlv.2
              have hfin := envL_rel g1 hlv2 (vs := evs e1 outs) (evs_length _ _) (fun i t v h1 h2 v' hv => by
                rw [evs_get, h1] at h2
                simp only [Option.map_some, Option.some.injEq] at h2
                subst h2
                exact hv) (ρ' := ρ1) (fun _ _ _ h => h)
              rw [hsz, k1.g] at hfin
              exact hfin
            | false =>
              rw [hany, cond_false] at h
              cases hk : (Nat.beq H1.n k && okKey k) with
              | false => rw [hk, cond_false] at h; cases h
              | true =>
                rw [hk, cond_true] at h
                simp only [Bool.and_eq_true, Nat.beq_eq] at hk
                refine ⟨x, _, _, h, rfl, rfl, ?_, fun ρ B w a hR hb hE => ?_⟩
                · rw [heapOf_n, (getsA_spec H1 k 0).1, ← hk.1]
                  have := k1.n
                  show p ≤ 0 + H1.n
                  omega
                · obtain ⟨q1, q2, q3, q4, _⟩ := norm_ok hN hR
                  have hX := turn_ext hN hR
                  have hE0 : ERel (turned ρ H N.L (cmpsOf H (refsL (evs e ins) ++ blocksRefs H N.L) p N.L 0)) (envL e.n e.g ins (renVL N.m (evs e ins))) a := by
                    refine envL_rel hE hlv.1 (by rw [renVL_length, evs_length]) (fun i t v h1 h2 v' hv => ?_) hX.cell
                    rw [renVL_get, evs_get, h1] at h2
                    simp only [Option.map_some, Option.some.injEq] at h2
                    subst h2
                    exact q4 _ _ (List.mem_of_getElem? (i := i) (by rw [evs_get, h1]; rfl)) hv
                  obtain ⟨n, k2⟩ := k1.run
                  refine wp_loop_rounds n (rounds_mono (fun ex a1 w1 h5 => ?_) n _ _ (k2 _ B w a q1 q2 hE0))
                  obtain ⟨rfl, ρ1, g1, g2, g3, g4⟩ := h5
                  obtain ⟨r1, r2⟩ := rebuilt g2.low hk.1 hk.2
                  refine ⟨rfl, ρ1, ?_, g2.same r1 r2, fun id ver hid => g3 id ver (by rw [← r1]; exact hid), hX.trans (g4.trans ⟨fun _ _ _ _ h => h, fun _ _ _ h => h, Nat.le_refl _, fun _ _ _ => rfl, fun id ver l h => .inr ⟨id, ver, l, h, rfl⟩, fun id ver l _ h => ⟨ver, l, h⟩, ⟨rfl, rfl⟩, fun _ _ _ h => .inl h, fun id _ h => by rw [r2]; exact h⟩)⟩
                  have hsz : e1.n = e.n := k1.sz
                  have hlv2 : lvOk e1.n outs = true := by rw [hsz]; exact hlv.2
                  have hfin := envL_rel g1 hlv2 (vs := evs e1 outs) (evs_length _ _) (fun i t v h1 h2 v' hv => by
                    rw [evs_get, h1] at h2
                    simp only [Option.map_some, Option.some.injEq] at h2
                    subst h2
                    exact hv) (ρ' := ρ1) (fun _ _ _ h => h)
                  rw [hsz, k1.g] at hfin
                  exact hfin
    · unfold loopK0 at h
      cases hr : rec (.loop f p c e) H with
      | none => rw [hr] at h; cases h
      | some q =>
        obtain ⟨o, H1⟩ := q
        rw [hr] at h
        obtain ⟨x, e1, rfl, k1⟩ := hrec.loops _ _ _ _ _ _ _ hr hp hg
        obtain ⟨n, k2⟩ := k1.run
        exact ⟨x, e1, H1, h, k1.g, k1.sz, k1.n, fun ρ B w a hR hb hE => wp_loop_rounds n (k2 ρ B w a hR hb hE)⟩
  | _ => intro K e H hp hg h; cases h

/- LOOPS -/

theorem loop_ok {cfg : Cfg} {f : FuncId} {p : Nat} {rec : Rec} {G : Nat → Option (List Value)} (hrec : RecOK P G rec) (hknow : KnowOK P G cfg.know) (hm : P.follows .mixedOrders = true) {c : Code} {e : Env} {H : AH} {o : Out} {H' : AH} (hp : p ≤ H.n) (hg : e.g.1 = G)
    (h : codeA P cfg f p rec c (roundK rec f p c (cfg.live f (firstId c))) e H = some (o, H')) : ∃ x e', o = .code x e' ∧ LoopOK P p c e H x e' H' := by
  obtain ⟨x1, e1, H1, h1, k1⟩ := codeA_ok hrec hknow hm c _ e H hp hg h
  have ends : ∀ x e1 H1, x ≠ .normal → CodeOK P p c e H x e1 H1 → LoopOK P p c e H x e1 H1 := by
    intro x e1 H1 hx k
    refine ⟨hx, k.g, k.sz, k.n, 1, fun ρ B w a hR hb hE => ?_⟩
    refine wpm (k.run ρ B w a hR hb hE) ?_
    rintro ex a1 w1 ⟨rfl, h4⟩
    exact exit_then hx ⟨rfl, h4⟩
  cases hl : cfg.live f (firstId c) with
  | none =>
    rw [hl] at h1
    cases x1 with
    | normal =>
      simp only [roundK] at h1
      obtain ⟨x, e', rfl, k2⟩ := hrec.loops _ _ _ _ _ _ _ h1 k1.n (by rw [k1.g]; exact hg)
      obtain ⟨n, k3⟩ := k2.run
      refine ⟨x, e', rfl, k2.nx, k2.g.trans k1.g, k2.sz.trans k1.sz, k2.n, n + 1, fun ρ B w a hR hb hE => ?_⟩
      refine wpm (k1.run ρ B w a hR hb hE) ?_
      rintro ex a1 w1 ⟨rfl, ρ1, h4, h5, h6, h7⟩
      exact rounds_mono (fun ex a2 w2 h8 => h8.next h7) n _ _ (k3 ρ1 B w1 a1 h5 h6 h4)
    | exit j => simp only [roundK, Option.some.injEq, Prod.mk.injEq] at h1; obtain ⟨rfl, rfl⟩ := h1; exact ⟨_, _, rfl, ends _ _ _ (fun h => by cases h) k1⟩
    | goto j => simp only [roundK, Option.some.injEq, Prod.mk.injEq] at h1; obtain ⟨rfl, rfl⟩ := h1; exact ⟨_, _, rfl, ends _ _ _ (fun h => by cases h) k1⟩
    | ret => simp only [roundK, Option.some.injEq, Prod.mk.injEq] at h1; obtain ⟨rfl, rfl⟩ := h1; exact ⟨_, _, rfl, ends _ _ _ (fun h => by cases h) k1⟩
  | some q =>
    obtain ⟨ins, outs, k⟩ := q
    rw [hl] at h1
    simp only [roundK] at h1
    cases hlv : (lvOk e1.n ins && lvOk e1.n outs) with
    | false => rw [hlv, cond_false] at h1; cases h1
    | true =>
      rw [hlv, cond_true] at h1
      simp only [Bool.and_eq_true] at hlv
      -- a frame and a heap under other numbers
      have turn : ∀ (lv : List Tmp) (N : Nrm), lvOk e1.n lv = true → normA H1 p (evs e1 lv) = some N → ∀ (ρ : Ren) (B : Nat) (w : World) (a : Act), Rel ρ B H1 w → ERel ρ e1 a →
          ∃ ρ', Rel ρ' B N.H w ∧ Bd ρ' N.H ∧ ERel ρ' (envL e1.n e1.g lv (renVL N.m (evs e1 lv))) a ∧ Ext2 p ρ H1 w ρ' N.H w := by
        intro lv N hlv hN ρ B w a hR hE
        obtain ⟨q1, q2, q3, q4, _⟩ := norm_ok hN hR
        have hX := turn_ext hN hR
        refine ⟨_, q1, q2, ?_, hX⟩
        refine envL_rel hE hlv (by rw [renVL_length, evs_length]) (fun i t v h1 h2 v' hv => ?_) hX.cell
        rw [renVL_get, evs_get, h1] at h2
        simp only [Option.map_some, Option.some.injEq] at h2
        subst h2
        exact q4 _ _ (List.mem_of_getElem? (i := i) (by rw [evs_get, h1]; rfl)) hv
      have fin : ∀ x, x ≠ .normal → x1 = x → (match normA H1 p (evs e1 outs) with
          | some N => some (.code x (envL e1.n e1.g outs (renVL N.m (evs e1 outs))), N.H)
          | none => none) = some (o, H') → ∃ x e', o = .code x e' ∧ LoopOK P p c e H x e' H' := by
        intro x hx hx1 h2
        subst hx1
        cases hN : normA H1 p (evs e1 outs) with
        | none => rw [hN] at h2; cases h2
        | some N =>
          rw [hN] at h2
          cases h2
          refine ⟨_, _, rfl, hx, k1.g, k1.sz, norm_n hN, 1, fun ρ B w a hR hb hE => ?_⟩
          refine wpm (k1.run ρ B w a hR hb hE) ?_
          rintro ex a1 w1 ⟨rfl, ρ1, h4, h5, h6, h7⟩
          obtain ⟨ρ2, g1, g2, g3, g4⟩ := turn outs N hlv.2 hN ρ1 B w1 a1 h5 h4
          exact exit_then hx ⟨rfl, ρ2, g3, g1, g2, h7.trans g4⟩
      cases x1 with
      | normal =>
        simp only [loopEnd] at h1
        cases hN : normA H1 p (evs e1 ins) with
        | none => rw [hN] at h1; cases h1
        | some N =>
          rw [hN] at h1
          simp only at h1
          obtain ⟨x, e', rfl, k2⟩ := hrec.loops _ _ _ _ _ _ _ h1 (norm_n hN) (by show e1.g.1 = G; rw [k1.g]; exact hg)
          obtain ⟨n, k3⟩ := k2.run
          refine ⟨x, e', rfl, k2.nx, k2.g.trans k1.g, k2.sz.trans k1.sz, k2.n, n + 1, fun ρ B w a hR hb hE => ?_⟩
          refine wpm (k1.run ρ B w a hR hb hE) ?_
          rintro ex a1 w1 ⟨rfl, ρ1, h4, h5, h6, h7⟩
          obtain ⟨ρ2, g1, g2, g3, g4⟩ := turn ins N hlv.1 hN ρ1 B w1 a1 h5 h4
          exact rounds_mono (fun ex a2 w2 h8 => h8.next (h7.trans g4)) n _ _ (k3 ρ2 B w1 a1 g1 g2 g3)
      | exit j => exact fin _ (fun h => by cases h) rfl h1
      | goto j => exact fin _ (fun h => by cases h) rfl h1
      | ret => exact fin _ (fun h => by cases h) rfl h1

/- CALLS -/

theorem envOf_get : ∀ (l : List Value) (k : Nat) (t : T Value), okKey (k + l.length) = true → ∀ j, (envOf l k t).get j = if k ≤ j ∧ j < k + l.length then l[j - k]? else t.get j := by
  intro l
  induction l with
  | nil => intro k t _ j; rw [if_neg (by simp)]; rfl
  | cons v r ih =>
    intro k t hk j
    simp only [envOf]
    rw [List.length_cons] at hk
    rw [ih (k + 1) _ (by rw [show k + 1 + r.length = k + (r.length + 1) by omega]; exact hk), T.get_put' (okKey_lt hk (by omega))]
    by_cases h1 : j = k
    · subst h1
      rw [if_neg (by omega), if_pos rfl, if_pos (by simp)]
      simp
    · by_cases h2 : k + 1 ≤ j ∧ j < k + 1 + r.length
      · rw [if_pos h2, if_pos (by simp; omega), show j - k = (j - (k + 1)) + 1 by omega]
        simp
      · rw [if_neg h2, if_neg h1, if_neg (by simp; omega)]

theorem frame_rel {ρ : Ren} {args : List Value} {args' : Array Value} {n : Nat} {g : (Nat → Option (List Value)) × Bool} (hG : GOK g.1 ρ) (h : VRL ρ args args'.toList) (hl : args.length ≤ n) (hk : okKey n = true) :
    ERel ρ { n := n, t := envOf args 0 .leaf, g := g } { tmps := args' ++ Array.replicate (n - args'.size) undef, defers := [] } := by
  have hsz : args'.size = args.length := by rw [h.1]; simp
  refine ⟨rfl, by simp; omega, hk, fun k => ?_, fun i => hG i⟩
  simp only [Env.get]
  rw [envOf_get args 0 .leaf (by rw [Nat.zero_add]; exact okKey_lt hk hl)]
  by_cases h1 : k < args.length
  · rw [if_pos (by omega), Nat.sub_zero, List.getElem?_eq_getElem h1]
    have e1 : (args' ++ Array.replicate (n - args'.size) undef).getD k undef = args'[k] := by
      rw [Array.getD_eq_getD_getElem?, Array.getElem?_append_left (by omega), Array.getElem?_eq_getElem (by omega)]
      rfl
    simp only
    rw [e1]
    exact h.2 k _ _ (List.getElem?_eq_getElem h1) (by simp [hsz, h1])
  · rw [if_neg (by omega)]
    have e1 : (args' ++ Array.replicate (n - args'.size) undef).getD k undef = undef := by
      rw [Array.getD_eq_getD_getElem?, Array.getElem?_append_right (by omega)]
      by_cases h2 : k - args'.size < n - args'.size
      · simp [h2]
      · simp [h2]
    rw [e1]
    exact .flat flat_undef

theorem retK_some {raw : Bool} {p : Nat} {rs : List ResultVar} {x : AExit} {e : Env} {H : AH} {o : Out} {H' : AH} (h : retK P raw p rs x e H = some (o, H')) :
    isEnd x = true ∧ ∃ vs u fr N, resultsA P H e rs = some vs ∧ ((raw = true ∧ u = oneOrTuple vs ∧ fr = []) ∨ (raw = false ∧ sealL P H 20 [oneOrTuple vs] = some ([u], fr))) ∧ normA (raise H fr) p [u] = some N ∧ o = .val (renV N.m u) ∧ H' = N.H := by
  unfold retK at h
  cases hx : isEnd x with
  | false => rw [hx, cond_false] at h; cases h
  | true =>
    rw [hx, cond_true] at h
    refine ⟨rfl, ?_⟩
    cases hr : resultsA P H e rs with
    | none => rw [hr] at h; cases h
    | some vs =>
      rw [hr] at h
      simp only [valK] at h
      have fin : ∀ u fr, valK2 p H (some ([u], fr)) = some (o, H') → ∃ N, normA (raise H fr) p [u] = some N ∧ o = .val (renV N.m u) ∧ H' = N.H := by
        intro u fr h
        simp only [valK2] at h
        cases hN : normA (raise H fr) p [u] with
        | none => rw [hN] at h; cases h
        | some N => rw [hN] at h; cases h; exact ⟨N, rfl, rfl, rfl⟩
      cases raw with
      | true =>
        rw [cond_true] at h
        obtain ⟨N, h1, h2, h3⟩ := fin _ _ h
        exact ⟨vs, _, [], N, rfl, .inl ⟨rfl, rfl, rfl⟩, h1, h2, h3⟩
      | false =>
        rw [cond_false] at h
        cases hs : sealL P H 20 [oneOrTuple vs] with
        | none => rw [hs] at h; cases h
        | some q =>
          obtain ⟨l, fr⟩ := q
          rw [hs] at h
          cases l with
          | nil => cases h
          | cons u l =>
            cases l with
            | cons u2 l => cases h
            | nil =>
              obtain ⟨N, h1, h2, h3⟩ := fin _ _ h
              exact ⟨vs, u, fr, N, rfl, .inr ⟨rfl, hs⟩, h1, h2, h3⟩

theorem callF_ok {cfg : Cfg} {rec : Rec} (hrec : RecOK P cfg.glob rec) (hknow : KnowOK P cfg.glob cfg.know) (hm : P.follows .mixedOrders = true) {f : FuncId} {args : List Value} {H H' : AH} {o : Out} (h : callF P cfg rec f args H P.funcs[f]? = some (o, H')) : ∃ v, o = .val v ∧ CalleeOK P cfg.glob f args H v H' := by
  cases hf : P.funcs[f]? with
  | none => rw [hf] at h; cases h
  | some fn =>
    rw [hf] at h
    simp only [callF] at h
    cases hb : fn.body with
    | none => rw [hb] at h; cases h
    | some c =>
      rw [hb] at h
      simp only at h
      cases hq : (Nat.ble args.length fn.ntmps && okKey fn.ntmps) with
      | false => rw [hq, cond_false] at h; cases h
      | true =>
        rw [hq, cond_true] at h
        simp only [Bool.and_eq_true] at hq
        have hl := Nat.le_of_ble_eq_true hq.1
        obtain ⟨x1, e1, H1, h1, k1⟩ := codeA_ok hrec hknow hm c _ _ H (Nat.le_refl _) rfl h
        obtain ⟨hx, vs, u, fr, N, h2, h3, h4, rfl, rfl⟩ := retK_some h1
        refine ⟨_, rfl, norm_n h4, fun ρ B w args' hR hG hbd hA => calls_of_wp hf hb ?_⟩
        refine wpm (k1.run ρ B w _ hR hbd (frame_rel (g := (cfg.glob, cfg.own f)) hG hA hl hq.2)) ?_
        rintro ex a1 w1 ⟨rfl, ρ1, h5, h6, h7, h8⟩
        obtain ⟨v', g1, g2⟩ := results_run h2 h6 h5
        have hk : FrKeys fr ∧ VR (ρ1.frz H1 w1 fr) u v' := by
          rcases h3 with ⟨_, rfl, rfl⟩ | ⟨_, hs⟩
          · exact ⟨frKeys_nil, g2.mono (frz_sub ρ1 H1 w1 [])⟩
          · obtain ⟨q1, q2⟩ := seal_ok h6 20 [oneOrTuple vs] [v'] (.cons g2 (.nil _)) _ _ hs
            obtain ⟨_, _, e, q3, _⟩ := q2.uncons
            cases e
            exact ⟨q1, q3⟩
        have hp := raise_rel h6 hk.1
        obtain ⟨r1, r2, r3, r4, _⟩ := norm_ok h4 hp.rel
        have hX := turn_ext h4 hp.rel
        have hpn : H.n ≤ H1.n := k1.n
        have done : ∃ ρ' v'', VR ρ' (renV N.m u) v'' ∧ v'' = v' ∧ Rel ρ' B N.H w1 ∧ Bd ρ' N.H ∧ Ext2 H.n ρ H w ρ' N.H w1 :=
          ⟨_, v', r4 u v' (by simp) hk.2, rfl, r1, r2, (h8.trans (hp.ext.weak hpn)).trans hX⟩
        obtain ⟨ρ', v'', d1, d2, d3, d4, d5⟩ := done
        subst d2
        cases x1 with
        | normal => exact ⟨h5.defers, v'', g1, ρ', v'', rfl, d1, d3, d4, d5⟩
        | ret => exact ⟨h5.defers, v'', g1, ρ', v'', rfl, d1, d3, d4, d5⟩
        | _ => cases hx

theorem step_rec {cfg : Cfg} {rec : Rec} (hrec : RecOK P cfg.glob rec) (hknow : KnowOK P cfg.glob cfg.know) (hm : P.follows .mixedOrders = true) : RecOK P cfg.glob (denStep P cfg rec) := by
  refine ⟨fun f args H o H' h => callF_ok hrec hknow hm h, fun f p c e H o H' h hp hg => loop_ok hrec hknow hm hp hg h⟩

theorem den_ok (cfg : Cfg) (hknow : KnowOK P cfg.glob cfg.know) (hm : P.follows .mixedOrders = true) : ∀ n, RecOK P cfg.glob (den P cfg n) := by
  intro n
  induction n with
  | zero => exact ⟨fun f args H o H' h => (by cases h), fun f p c e H o H' h => (by cases h)⟩
  | succ n ih => exact step_rec ih hknow hm

/-- THE ENGINE. -/
theorem den_calls {cfg : Cfg} (hknow : KnowOK P cfg.glob cfg.know) (hm : P.follows .mixedOrders = true) {n : Nat} {f : FuncId} {args : List Value} {H H' : AH} {o : Out} (h : den P cfg n (.call f args) H = some (o, H')) : ∃ v, o = .val v ∧ CalleeOK P cfg.glob f args H v H' :=
  (den_ok cfg hknow hm n).calls _ _ _ _ _ h

end
end Go.Den
