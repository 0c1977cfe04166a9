/-
  THE ENGINE, part Rc: calls, as their callers see them.
-/
import Derived.Test.YtjihbfdbgamcdaaGreatDoorE2Rb
namespace Go.Den
noncomputable section

variable {P : Program}

/-- What is kept, where numbers may have been turned: the first p stay. -/
structure Ext2 (p : Nat) (ρ : Ren) (H : AH) (w : World) (ρ' : Ren) (H' : AH) (w' : World) : Prop where
  pin : ∀ id ver l, id < p → ρ id ver = some l → ρ' id ver = some l
  cell : ∀ b i v, ρ.cell b i = some v → ρ'.cell b i = some v
  size : w.heap.size ≤ w'.heap.size
  frame : ∀ b : Nat, b < w.heap.size → (∀ id ver l, ρ id ver = some l → l.block ≠ b) → w'.heap[b]? = w.heap[b]?
  fresh : ∀ id ver l, ρ' id ver = some l → w.heap.size ≤ l.block ∨ ∃ id0 ver0 l0, ρ id0 ver0 = some l0 ∧ l0.block = l.block
  dom : ∀ id ver l, id < p → ρ' id ver = some l → ∃ ver0 l0, ρ id ver0 = some l0
  same : w'.os = w.os ∧ w'.output = w.output
  cells : ∀ b i v, ρ'.cell b i = some v → ρ.cell b i = some v ∨ w.heap.size ≤ b ∨ ∃ id ver l, ρ id ver = some l ∧ l.block = b
  keep : ∀ id, id < p → (H.get id).isSome = true → (H'.get id).isSome = true

theorem Ext2.refl (p : Nat) (ρ : Ren) (H : AH) (w : World) : Ext2 p ρ H w ρ H w :=
  ⟨fun _ _ _ _ h => h, fun _ _ _ h => h, Nat.le_refl _, fun _ _ _ => rfl, fun id ver l h => .inr ⟨id, ver, l, h, rfl⟩, fun id ver l _ h => ⟨ver, l, h⟩, ⟨rfl, rfl⟩, fun _ _ _ h => .inl h, fun _ _ h => h⟩

theorem Ext2.trans {p : Nat} {ρ ρ1 ρ2 : Ren} {H H1 H2 : AH} {w w1 w2 : World} (h : Ext2 p ρ H w ρ1 H1 w1) (h' : Ext2 p ρ1 H1 w1 ρ2 H2 w2) : Ext2 p ρ H w ρ2 H2 w2 := by
  refine ⟨fun id ver l hp e => h'.pin id ver l hp (h.pin id ver l hp e), fun b i v e => h'.cell b i v (h.cell b i v e), Nat.le_trans h.size h'.size, ?_, ?_, ?_, ⟨h'.same.1.trans h.same.1, h'.same.2.trans h.same.2⟩, ?_, fun id hp e => h'.keep id hp (h.keep id hp e)⟩
  · intro b hb himg
    rw [h'.frame b (Nat.lt_of_lt_of_le hb h.size) ?_, h.frame b hb himg]
    intro id ver l hl e
    rcases h.fresh id ver l hl with h1 | ⟨id0, ver0, l0, h1, h2⟩
    · omega
    · exact himg id0 ver0 l0 h1 (h2.trans e)
  · intro id ver l hl
    rcases h'.fresh id ver l hl with h1 | ⟨id0, ver0, l0, h1, h2⟩
    · exact .inl (Nat.le_trans h.size h1)
    · rcases h.fresh id0 ver0 l0 h1 with h3 | ⟨id1, ver1, l1, h3, h4⟩
      · exact .inl (by omega)
      · exact .inr ⟨id1, ver1, l1, h3, h4.trans h2⟩
  · intro id ver l hp hl
    obtain ⟨ver0, l0, h1⟩ := h'.dom id ver l hp hl
    exact h.dom id ver0 l0 hp h1
  · intro b i v hv
    rcases h'.cells b i v hv with h1 | h1 | ⟨id, ver, l, h1, h2⟩
    · exact h.cells b i v h1
    · exact .inr (.inl (Nat.le_trans h.size h1))
    · rcases h.fresh id ver l h1 with h3 | ⟨id0, ver0, l0, h3, h4⟩
      · exact .inr (.inl (by omega))
      · exact .inr (.inr ⟨id0, ver0, l0, h3, h4.trans h2⟩)

theorem Ext.weak {p : Nat} {ρ ρ' : Ren} {H H' : AH} {w w' : World} (h : Ext ρ H w ρ' H' w') (hp : p ≤ H.n) : Ext2 p ρ H w ρ' H' w' := by
  refine ⟨fun id ver l _ e => h.sub id ver l e, h.sub.cell, h.size, fun b hb himg => h.frame b hb fun id ver l _ e => himg id ver l e, ?_, ?_, h.same, ?_, fun id _ e => h.keep id e⟩
  · intro id ver l hl
    cases hq : ρ id ver with
    | some l0 =>
      have := h.sub id ver l0 hq
      rw [hl] at this
      cases this
      exact .inr ⟨id, ver, l, hq, rfl⟩
    | none =>
      rcases h.fresh id ver l hl hq with h1 | ⟨ver0, l0, _, h2, h3⟩
      · exact .inl h1
      · exact .inr ⟨id, ver0, l0, h2, h3⟩
  · intro id ver l hid hl
    cases hq : ρ id ver with
    | some l0 => exact ⟨ver, l0, hq⟩
    | none =>
      rcases h.dom id ver l hl hq with ⟨h1, _⟩ | ⟨_, h1⟩
      · omega
      · exact h1
  · intro b i v hv
    rcases h.cells b i v hv with h1 | h1 | ⟨id, ver, l, _, h2, h3⟩
    · exact .inl h1
    · exact .inr (.inl h1)
    · exact .inr (.inr ⟨id, ver, l, h2, h3⟩)

theorem Bd.next {ρ ρ' : Ren} {H H' : AH} {w w' : World} (h : Bd ρ H) (hlow : Low H) (he : Ext ρ H w ρ' H' w') : Bd ρ' H' := by
  intro id ver hid
  cases hq : ρ' id ver with
  | none => rfl
  | some l =>
    exfalso
    have hn := he.n
    rcases he.dom id ver l hq (h id ver (by omega)) with ⟨_, h1⟩ | ⟨h1, _⟩
    · omega
    · obtain ⟨b, hb⟩ := Option.isSome_iff_exists.1 h1
      have := hlow id b hb
      omega

/-- What a callee comes to, over its own numbers. -/
def CalleeOK (P : Program) (G : Nat → Option (List Value)) (f : FuncId) (args : List Value) (H : AH) (v : Value) (H' : AH) : Prop := H.n ≤ H'.n ∧
  ∀ (ρ : Ren) (B : Nat) (w : World) (args' : Array Value), Rel ρ B H w → GOK G ρ → Bd ρ H → VRL ρ args args'.toList →
    Calls P f args' w fun e w' => ∃ ρ' v', e = .returned v' ∧ VR ρ' v v' ∧ Rel ρ' B H' w' ∧ Bd ρ' H' ∧ Ext2 H.n ρ H w ρ' H' w'

/- WHAT COMES BACK -/

theorem getN_get : ∀ (L : List Nat) (k n : Nat), L[k]? = some n → getN L k = n := by
  intro L
  induction L with
  | nil => intro k n h; simp at h
  | cons a L ih =>
    intro k n h
    cases k with
    | zero => simp at h; exact h
    | succ k => exact ih k n (by simpa using h)

theorem zeros_spec (n : Nat) : (zeros n).length = n ∧ ∀ x ∈ zeros n, x = 0 := by
  induction n with
  | zero => exact ⟨rfl, fun x h => by have h : x ∈ ([] : List Nat) := h; simp at h⟩
  | succ n ih =>
    refine ⟨by show (0 :: zeros n).length = _; simp [ih.1], fun x h => ?_⟩
    have h : x ∈ (0 :: zeros n) := h
    simp only [List.mem_cons] at h
    rcases h with rfl | h
    · rfl
    · exact ih.2 x h

theorem topsOf_get (H : AH) : ∀ (cs : List (Nat × Bool)) (k : Nat) (c : Nat × Bool), cs[k]? = some c → getN (topsOf H cs) k = if c.2 then topOf (H.get c.1) else 0 := by
  intro cs
  induction cs with
  | nil => intro k c h; simp at h
  | cons a cs ih =>
    intro k c h
    cases k with
    | zero =>
      simp at h
      subst h
      show (bif a.2 then topOf (H.get a.1) else 0) = _
      cases a.2 <;> rfl
    | succ k => exact ih k c (by simpa using h)

theorem backs_spec (m : Nm) (H1 Hc : AH) : ∀ (cs : List (Nat × Bool)) (ix : Nat) (H : AH), Low H → (∀ c ∈ cs, okKey c.1 = true ∧ c.1 < H.n) → (∀ {i j : Nat} {x y : Nat × Bool}, cs[i]? = some x → cs[j]? = some y → x.1 = y.1 → i = j) → (∀ j, j < cs.length → (Hc.get (ix + j)).isSome = true) →
    (backs m H1 Hc cs ix H).n = H.n ∧ Low (backs m H1 Hc cs ix H) ∧ (∀ id, (∀ c ∈ cs, c.1 ≠ id) → (backs m H1 Hc cs ix H).get id = H.get id) ∧
    ∀ (j : Nat) (c : Nat × Bool), cs[j]? = some c → (backs m H1 Hc cs ix H).get c.1 = backB m c.2 (topOf (H1.get c.1)) (frzOf (H1.get c.1)) (Hc.get (ix + j)) := by
  intro cs
  induction cs with
  | nil => intro ix H hl _ _ _; exact ⟨rfl, hl, fun _ _ => rfl, fun j c h => by simp at h⟩
  | cons a cs ih =>
    intro ix H hl hk hu hs
    have hka := hk a (by simp)
    have h0 := hs 0 (by simp)
    obtain ⟨b0, hb0⟩ := Option.isSome_iff_exists.1 h0
    rw [Nat.add_zero] at hb0
    have hbb : ∃ b, backB m a.2 (topOf (H1.get a.1)) (frzOf (H1.get a.1)) (Hc.get ix) = some b := by
      rw [hb0]
      cases b0 with
      | cells b => simp only [backB]; cases a.2 <;> exact ⟨_, rfl⟩
      | map es => exact ⟨_, rfl⟩
      | tok x y z => exact ⟨_, rfl⟩
    obtain ⟨bb, hbb⟩ := hbb
    have e : backs m H1 Hc (a :: cs) ix H = backs m H1 Hc cs (ix + 1) (H.set a.1 bb) := by
      show backs m H1 Hc cs (ix + 1) (setO H a.1 (backB m a.2 (topOf (H1.get a.1)) (frzOf (H1.get a.1)) (Hc.get ix))) = _
      rw [hbb]
      rfl
    have hg := fun id => AH.get_set (H := H) hka.1 bb id
    have hn : (H.set a.1 bb).n = H.n := by rw [AH.set_eq]
    have hl' : Low (H.set a.1 bb) := by
      intro id c hc
      rw [hg] at hc
      rw [hn]
      split at hc
      · rename_i e; rw [e]; exact hka.2
      · exact hl id c hc
    obtain ⟨h1, h2, h3, h4⟩ := ih (ix + 1) (H.set a.1 bb) hl' (fun c hc => by rw [hn]; exact hk c (by simp [hc])) (fun {i j x y} p q r => by
      have := hu (i := i + 1) (j := j + 1) (by simpa using p) (by simpa using q) r
      omega) (fun j hj => by have := hs (j + 1) (by simp; omega); rw [show ix + 1 + j = ix + (j + 1) by omega]; exact this)
    rw [e]
    refine ⟨h1.trans hn, h2, fun id hid => ?_, fun j c hc => ?_⟩
    · rw [h3 id fun c hc => hid c (by simp [hc]), hg, if_neg (fun e => hid a (by simp) e.symm)]
    · cases j with
      | zero =>
        simp at hc
        subst hc
        rw [h3 a.1 ?_, hg, if_pos rfl, Nat.add_zero]
        · exact hbb.symm
        · intro c hc e2
          obtain ⟨i, hi, hci⟩ := List.getElem_of_mem hc
          have := hu (i := i + 1) (j := 0) (x := c) (y := a) (by simp [hi, hci]) rfl e2
          omega
      | succ j =>
        rw [h4 j c (by simpa using hc), show ix + 1 + j = ix + (j + 1) by omega]

theorem news_spec (m : Nm) (Hc : AH) : ∀ (d k : Nat) (H : AH), okKey (H.n + d) = true → Low H →
    (news m Hc k d H).n = H.n + d ∧ Low (news m Hc k d H) ∧ (∀ id, id < H.n → (news m Hc k d H).get id = H.get id) ∧ ∀ j, j < d → (news m Hc k d H).get (H.n + j) = backB m false 0 0 (Hc.get (k + j)) := by
  intro d
  induction d with
  | zero => intro k H _ hl; exact ⟨rfl, hl, fun _ _ => rfl, fun j h => by omega⟩
  | succ d ih =>
    intro k H hk hl
    have hk' : okKey H.n = true := okKey_lt hk (by omega)
    have e : news m Hc k (d + 1) H = news m Hc (k + 1) d (addO H (backB m false 0 0 (Hc.get k))) := rfl
    have hg := fun id => addO_get hk' hl (backB m false 0 0 (Hc.get k)) id
    have hn := addO_n H (backB m false 0 0 (Hc.get k))
    obtain ⟨h1, h2, h3, h4⟩ := ih (k + 1) (addO H (backB m false 0 0 (Hc.get k))) (by rw [hn, show H.n + 1 + d = H.n + (d + 1) by omega]; exact hk) (addO_low hk' hl _)
    rw [e]
    refine ⟨by rw [h1, hn]; omega, h2, fun id hid => ?_, fun j hj => ?_⟩
    · rw [h3 id (by omega), hg, if_neg (by omega)]
    · cases j with
      | zero =>
        have h5 := hg H.n
        rw [if_pos rfl] at h5
        have h6 := h3 H.n (by omega)
        rw [h5] at h6
        exact h6
      | succ j =>
        have := h4 j (by omega)
        rw [hn] at this
        rw [show H.n + (j + 1) = H.n + 1 + j by omega, this, show k + 1 + j = k + (j + 1) by omega]

/-- The renaming of the caller, behind a call. -/
def merged (ρ ρc' : Ren) (H1 : AH) (L : List Nat) (cs : List (Nat × Bool)) (n3 : Nat) : Ren :=
  ⟨fun id ver => if id < H1.n then (if id ∈ L then (if cmpAt id cs = true then (if ver < topOf (H1.get id) then ρ id ver else ρc' (idxOf id L 0) (ver - topOf (H1.get id))) else ρc' (idxOf id L 0) ver) else ρ id ver)
    else if id < n3 then ρc' (L.length + (id - H1.n)) ver else ρ id ver, ρc'.cell⟩

theorem merge_ok {ρ : Ren} {B : Nat} {H1 : AH} {w : World} (hR : Rel ρ B H1 w) {vs : List Value} {N : Nrm} (hN : normA H1 0 vs = some N) {v : Value} {Hc : AH} {fr : Frs} {v2 : Value} {nb : Option ABlk} {eff : Bool} {H3 : AH} {wr : List Nat}
    (hm : mergeA H1 fr N.L (cmpsOf H1 (refsL vs ++ blocksRefs H1 N.L) 0 N.L 0) v Hc = .did v2 nb eff H3 wr) :
    nb = none ∧ eff = true ∧ wr = changed H1 H3 N.L ++ frIds fr ∧ H1.n ≤ H3.n ∧ (∀ id, id ∉ N.L → id < H1.n → H3.get id = H1.get id) ∧
    ∀ {w' : World} {ρc' : Ren} {v' : Value}, Free ρ H1.n H3.n → VR ρc' v v' → Rel ρc' B Hc w' → Bd ρc' Hc → Ext2 N.H.n (turned ρ H1 N.L (cmpsOf H1 (refsL vs ++ blocksRefs H1 N.L) 0 N.L 0)) N.H w ρc' Hc w' →
      ∃ ρ', VR ρ' v2 v' ∧ Post ρ B H1 w ρ' H3 w' := by
  obtain ⟨hRc, hBc, hNn, _, hnd, hall, hNs, hNk, _, _, hcmp, hopen⟩ := norm_ok hN hR
  generalize hcs : cmpsOf H1 (refsL vs ++ blocksRefs H1 N.L) 0 N.L 0 = cs at *
  generalize hLL : N.L = L at *
  have hcl : cs.length = L.length ∧ ∀ (j : Nat) (id : Nat), L[j]? = some id → cs[j]? = some (id, cmpAt id cs) := by
    have := cmpsOf_spec H1 (refsL vs ++ blocksRefs H1 L) 0 L 0
    rw [hcs] at this
    refine ⟨this.1, fun j id h => ?_⟩
    rw [this.2 j id h, hcmp j id h, Nat.zero_add]
  have hcu : ∀ {i j : Nat} {x y : Nat × Bool}, cs[i]? = some x → cs[j]? = some y → x.1 = y.1 → i = j := by
    intro i j x y h1 h2 h3
    have hi : i < L.length := by rw [← hcl.1]; exact get_lt h1
    have hj : j < L.length := by rw [← hcl.1]; exact get_lt h2
    have g1 := hcl.2 i _ (List.getElem?_eq_getElem hi)
    have g2 := hcl.2 j _ (List.getElem?_eq_getElem hj)
    rw [h1] at g1
    rw [h2] at g2
    cases g1; cases g2
    simp only at h3
    exact noDup_spec hnd (n := L[i]) (List.getElem?_eq_getElem hi) (by rw [h3]; exact List.getElem?_eq_getElem hj)
  unfold mergeA at hm
  cases hq : (keysOk L && (Nat.ble L.length Hc.n && (okKey (H1.n + Hc.n) && (topsOk L.length (topsOf H1 cs) (toks v ++ newToks Hc Hc.n 0) && (backsOk Hc cs 0 && hasAll Hc (upto L.length)))))) with
  | false => rw [hq, cond_false] at hm; cases hm
  | true =>
  rw [hq, cond_true] at hm
  simp only [Bool.and_eq_true, Nat.ble_eq] at hq
  obtain ⟨hkeys, hle, hkey, htops, hbacks, hthere⟩ := hq
  generalize hmm : backNm H1.n L.length L (topsOf H1 cs) = m at hm
  cases hm
  have hkeyL : ∀ id ∈ L, okKey id = true := by unfold keysOk at hkeys; exact list_all hkeys
  have hltL : ∀ id ∈ L, id < H1.n := fun id hi => by
    obtain ⟨b, hb⟩ := hasAll_spec hall id hi
    exact hR.low id b hb
  have hHcs : ∀ j, j < cs.length → True := fun _ _ => trivial
  refine ⟨rfl, rfl, rfl, ?_⟩
  have hplace : ∀ {id : Nat}, id ∈ L → L[idxOf id L 0]? = some id := by
    intro id hi
    obtain ⟨j, h1, h2⟩ := idxOf_spec id L 0 hi
    rw [h1, Nat.zero_add]; exact h2
  have hplace' : ∀ {ix id : Nat}, L[ix]? = some id → idxOf id L 0 = ix := fun {ix id} h => noDup_spec hnd (hplace (List.mem_of_getElem? h)) h
  -- when the callee's blocks are all there
  have hlow1 := hR.low
  have hsomes : ∀ j, j < cs.length → (Hc.get (0 + j)).isSome = true := by
    intro j hj
    rw [hcl.1] at hj
    obtain ⟨b, hb⟩ := hasAll_spec hthere j (by
      have : ∀ n j, j < n → j ∈ upto n := by
        intro n
        induction n with
        | zero => intro j h; omega
        | succ n ih =>
          intro j h
          show j ∈ upto n ++ [n]
          by_cases h2 : j = n
          · subst h2; simp
          · exact List.mem_append.2 (.inl (ih j (by omega)))
      exact this _ _ hj)
    rw [Nat.zero_add, hb]; rfl
  · obtain ⟨b1, b2, b3, b4⟩ := backs_spec m H1 Hc cs 0 H1 hlow1 (fun c hc => by
        obtain ⟨i, hi, hci⟩ := List.getElem_of_mem hc
        have hi' : i < L.length := by rw [← hcl.1]; exact hi
        have := hcl.2 i _ (List.getElem?_eq_getElem hi')
        rw [List.getElem?_eq_getElem hi, hci] at this
        cases this
        exact ⟨hkeyL _ (List.getElem_mem hi'), hltL _ (List.getElem_mem hi')⟩) hcu hsomes
    generalize hH2 : backs m H1 Hc cs 0 H1 = H2 at *
    obtain ⟨n1, n2, n3, n4⟩ := news_spec m Hc (Hc.n - L.length) L.length H2 (by rw [b1]; exact okKey_lt hkey (by omega)) b2
    generalize hH3 : news m Hc L.length (Hc.n - L.length) H2 = H3 at *
    have hn3 : H3.n = H1.n + (Hc.n - L.length) := by rw [n1, b1]
    have hnotin : ∀ id, id ∉ L → ∀ c ∈ cs, c.1 ≠ id := by
      intro id hid c hc e
      obtain ⟨i, hi, hci⟩ := List.getElem_of_mem hc
      have hi' : i < L.length := by rw [← hcl.1]; exact hi
      have := hcl.2 i _ (List.getElem?_eq_getElem hi')
      rw [List.getElem?_eq_getElem hi, hci] at this
      cases this
      exact hid (by rw [← e]; exact List.getElem_mem hi')
    have gOld : ∀ id, id ∉ L → id < H1.n → H3.get id = H1.get id := fun id h1 h2 => by rw [n3 id (by rw [b1]; exact h2), b3 id (hnotin id h1)]
    have gL : ∀ (ix id : Nat), L[ix]? = some id → H3.get id = backB m (cmpAt id cs) (topOf (H1.get id)) (frzOf (H1.get id)) (Hc.get ix) := by
      intro ix id hi
      rw [n3 id (by rw [b1]; exact hltL id (List.mem_of_getElem? hi)), b4 ix _ (hcl.2 ix id hi), Nat.zero_add]
    have gNew : ∀ j, j < Hc.n - L.length → H3.get (H1.n + j) = backB m false 0 0 (Hc.get (L.length + j)) := by
      intro j hj
      have := n4 j hj
      rw [b1] at this
      exact this
    refine ⟨by omega, gOld, ?_⟩
    intro w' ρc' v' hfree hv hRc' hBc' hE
    rw [hNn] at hE
    -- the callee's renaming ahead of it
    have hρc : ∀ {ix ver : Nat} {l : Loc}, turned ρ H1 L cs ix ver = some l → ∃ id, L[ix]? = some id ∧ ((cmpAt id cs = true ∧ ver = 0 ∧ ρ id (topOf (H1.get id)) = some l) ∨ (cmpAt id cs = false ∧ ρ id ver = some l)) := by
      intro ix ver l hl
      simp only [turned] at hl
      cases hx : L[ix]? with
      | none => rw [hx] at hl; cases hl
      | some id =>
        rw [hx] at hl
        simp only at hl
        refine ⟨id, rfl, ?_⟩
        cases hc : cmpAt id cs with
        | false => rw [hc, cond_false] at hl; exact .inr ⟨rfl, hl⟩
        | true =>
          rw [hc, cond_true] at hl
          split at hl
          · rename_i h0; exact .inl ⟨rfl, h0, hl⟩
          · cases hl
    have hρ1 : ∀ {ix ver : Nat} {l : Loc}, turned ρ H1 L cs ix ver = some l → ∃ id ver0, L[ix]? = some id ∧ ρ id ver0 = some l := by
      intro ix ver l hl
      obtain ⟨id, h1, h2⟩ := hρc hl
      rcases h2 with ⟨_, _, h⟩ | ⟨_, h⟩ <;> exact ⟨id, _, h1, h⟩
    have htop : ∀ {id : Nat}, id ∈ L → cmpAt id cs = true → ∃ b, H1.get id = some (.cells b) ∧ b.lens ≠ [] := fun {id} hi hc => (hopen _ _ (hplace hi) hc).2
    have hvers : ∀ {id ver : Nat} {l : Loc}, id ∈ L → cmpAt id cs = true → ρ id ver = some l → ver ≤ topOf (H1.get id) := by
      intro id ver l hi hc hl
      obtain ⟨b, hb, _⟩ := htop hi hc
      rw [hb]
      exact (hR.blk _ _ _ _ hl hb).1
    let ρ' := merged ρ ρc' H1 L cs H3.n
    have e1 : ∀ {id ver : Nat}, id < H1.n → id ∉ L → ρ' id ver = ρ id ver := by
      intro id ver h1 h2
      show (if id < H1.n then _ else _) = _
      rw [if_pos h1, if_neg h2]
    have e2 : ∀ {ix id ver : Nat}, L[ix]? = some id → cmpAt id cs = false → ρ' id ver = ρc' ix ver := by
      intro ix id ver h1 h2
      have hi := List.mem_of_getElem? h1
      show (if id < H1.n then _ else _) = _
      rw [if_pos (hltL id hi), if_pos hi, if_neg (by rw [h2]; simp), hplace' h1]
    have e3 : ∀ {ix id s : Nat}, L[ix]? = some id → cmpAt id cs = true → ρ' id (topOf (H1.get id) + s) = ρc' ix s := by
      intro ix id s h1 h2
      have hi := List.mem_of_getElem? h1
      show (if id < H1.n then _ else _) = _
      rw [if_pos (hltL id hi), if_pos hi, if_pos h2, if_neg (by omega), hplace' h1, Nat.add_sub_cancel_left]
    have e4 : ∀ {id ver : Nat}, id ∈ L → cmpAt id cs = true → ver < topOf (H1.get id) → ρ' id ver = ρ id ver := by
      intro id ver h1 h2 h3
      show (if id < H1.n then _ else _) = _
      rw [if_pos (hltL id h1), if_pos h1, if_pos h2, if_pos h3]
    have e5 : ∀ {j ver : Nat}, j < Hc.n - L.length → ρ' (H1.n + j) ver = ρc' (L.length + j) ver := by
      intro j ver h1
      show (if H1.n + j < H1.n then _ else if H1.n + j < H3.n then ρc' (L.length + (H1.n + j - H1.n)) ver else _) = _
      rw [if_neg (by omega), if_pos (by omega), Nat.add_sub_cancel_left]
    have e6 : ∀ {id ver : Nat}, H3.n ≤ id → ρ' id ver = ρ id ver := by
      intro id ver h1
      show (if id < H1.n then _ else if id < H3.n then _ else ρ id ver) = _
      rw [if_neg (by omega), if_neg (by omega)]
    -- where an entry comes from
    have src : ∀ {id ver : Nat} {l : Loc}, ρ' id ver = some l → (ρ id ver = some l ∧ (id ∉ L ∨ (cmpAt id cs = true ∧ id ∈ L ∧ ver < topOf (H1.get id))) ∧ (id < H1.n ∨ H3.n ≤ id)) ∨
        (∃ ix s, ρc' ix s = some l ∧ ((L[ix]? = some id ∧ ((cmpAt id cs = true ∧ ver = topOf (H1.get id) + s) ∨ (cmpAt id cs = false ∧ ver = s))) ∨ (∃ j, j < Hc.n - L.length ∧ ix = L.length + j ∧ id = H1.n + j ∧ ver = s))) := by
      intro id ver l hl
      by_cases h1 : id < H1.n
      · by_cases h2 : id ∈ L
        · have h3 := hplace h2
          cases hc : cmpAt id cs with
          | false => rw [e2 h3 hc] at hl; exact .inr ⟨_, _, hl, .inl ⟨h3, .inr ⟨rfl, rfl⟩⟩⟩
          | true =>
            by_cases h4 : ver < topOf (H1.get id)
            · rw [e4 h2 hc h4] at hl; exact .inl ⟨hl, .inr ⟨rfl, h2, h4⟩, .inl h1⟩
            · obtain ⟨s, rfl⟩ : ∃ s, ver = topOf (H1.get id) + s := ⟨ver - topOf (H1.get id), by omega⟩
              rw [e3 h3 hc] at hl
              exact .inr ⟨_, s, hl, .inl ⟨h3, .inl ⟨rfl, rfl⟩⟩⟩
        · rw [e1 h1 h2] at hl; exact .inl ⟨hl, .inl h2, .inl h1⟩
      · by_cases h2 : id < H3.n
        · obtain ⟨j, rfl⟩ : ∃ j, id = H1.n + j := ⟨id - H1.n, by omega⟩
          have hj : j < Hc.n - L.length := by omega
          rw [e5 hj] at hl
          exact .inr ⟨_, _, hl, .inr ⟨j, hj, rfl, rfl, rfl⟩⟩
        · rw [e6 (by omega)] at hl
          exact .inl ⟨hl, .inl fun h => h1 (hltL id h), .inr (by omega)⟩
    have hsub : Sub ρ ρ' := by
      refine ⟨fun id ver l hl => ?_, fun b i v h => hE.cell b i v h⟩
      by_cases h1 : id < H1.n
      · by_cases h2 : id ∈ L
        · have h3 := hplace h2
          have hlt := get_lt h3
          cases hc : cmpAt id cs with
          | false =>
            rw [e2 h3 hc]
            refine hE.pin _ _ _ hlt ?_
            simp only [turned, h3, hc, cond_false]
            exact hl
          | true =>
            by_cases h4 : ver < topOf (H1.get id)
            · rw [e4 h2 hc h4]; exact hl
            · have h5 := hvers h2 hc hl
              have h6 : ver = topOf (H1.get id) + 0 := by omega
              rw [h6, e3 h3 hc]
              refine hE.pin _ _ _ hlt ?_
              simp only [turned, h3, hc, cond_true, if_true]
              rw [h6] at hl
              exact hl
        · rw [e1 h1 h2]; exact hl
      · by_cases h2 : id < H3.n
        · rw [hfree id ver (by omega) h2] at hl; cases hl
        · rw [e6 (by omega)]; exact hl
    have hcellid : ∀ b i x, ρc'.cell b i = some x → ρ'.cell b i = some x := fun b i x h => h
    -- values of the callee
    have hTurns : ∀ rs, Turns m ρc' ρ' rs := by
      intro rs r _ l hl
      have hlt : r.1 < Hc.n := by
        rcases Nat.lt_or_ge r.1 Hc.n with h | h
        · exact h
        · rw [hBc' _ _ h] at hl; cases hl
      rw [← hmm]
      simp only [backNm]
      cases hb : Nat.blt r.1 L.length with
      | true =>
        rw [cond_true]
        have hix : r.1 < L.length := Nat.le_of_ble_eq_true hb
        have h3 := List.getElem?_eq_getElem hix
        have h4 := getN_get L r.1 _ h3
        have h5 := topsOf_get H1 cs r.1 _ (hcl.2 _ _ h3)
        simp only at h5
        simp only [h4, h5]
        cases hc : cmpAt L[r.1] cs with
        | false =>
          simp only [Bool.false_eq_true, if_false]
          rw [show Nat.beq 0 0 = true from rfl, cond_true, e2 h3 hc]
          exact hl
        | true =>
          simp only [if_true]
          cases hz : Nat.beq (topOf (H1.get L[r.1])) 0 with
          | true =>
            have hz' := Nat.eq_of_beq_eq_true hz
            rw [cond_true]
            have := e3 (s := r.2) h3 hc
            rw [hz', Nat.zero_add] at this
            rw [this]; exact hl
          | false =>
            rw [cond_false]
            have := e3 (s := r.2) h3 hc
            show ρ' L[r.1] (topOf (H1.get L[r.1]) + r.2) = _
            rw [this]; exact hl
      | false =>
        rw [cond_false]
        have hge : L.length ≤ r.1 := by
          rcases Nat.lt_or_ge r.1 L.length with h | h
          · rw [show Nat.blt r.1 L.length = true from Nat.ble_eq_true_of_le h] at hb; cases hb
          · exact h
        have := e5 (j := r.1 - L.length) (ver := r.2) (by omega)
        show ρ' (H1.n + (r.1 - L.length)) r.2 = _
        rw [this, show L.length + (r.1 - L.length) = r.1 by omega]
        exact hl
    have hToks : ∀ ts, (∀ t ∈ ts, t ∈ toks v ++ newToks Hc Hc.n 0) → Toks m ts := by
      intro ts hts t ht n
      unfold topsOk at htops
      have h1 := list_all htops t (hts t ht)
      rw [← hmm]
      simp only [backNm]
      cases hb : Nat.blt t L.length with
      | true =>
        rw [hb, cond_true] at h1
        rw [cond_true]
        simp only [h1, cond_true]
      | false => rw [cond_false]
    have hnewToks : ∀ ix, ix < Hc.n → ∀ t ∈ toksB (Hc.get ix), t ∈ newToks Hc Hc.n 0 := by
      have : ∀ (d k ix : Nat), k ≤ ix → ix < k + d → ∀ t ∈ toksB (Hc.get ix), t ∈ newToks Hc d k := by
        intro d
        induction d with
        | zero => intro k ix h1 h2; omega
        | succ d ih =>
          intro k ix h1 h2 t ht
          show t ∈ toksB (Hc.get k) ++ newToks Hc d (k + 1)
          by_cases h : ix = k
          · subst h; exact List.mem_append.2 (.inl ht)
          · exact List.mem_append.2 (.inr (ih (k + 1) ix (by omega) (by omega) t ht))
      intro ix hix t ht
      exact this Hc.n 0 ix (Nat.zero_le _) (by omega) t ht
    have hval : ∀ {u u' : Value}, VR ρc' u u' → (∀ t ∈ toks u, t ∈ toks v ++ newToks Hc Hc.n 0) → VR ρ' (renV m u) u' := fun h1 h2 => ren_rel h1 hcellid (hTurns _) (hToks _ h2)
    have hcl2 : ∀ (ix : Nat) (b : CBlk), ix < Hc.n → Hc.get ix = some (.cells b) → ∀ (i : Nat) (x : Value), (bif b.pf then b.cells else renVL m b.cells)[i]? = some x → ∃ u, b.cells[i]? = some u ∧ ∀ v', VR ρc' u v' → VR ρ' x v' := by
      intro ix b hix hb i x hx
      refine cells_turn (hRc'.wf _ _ hb) hcellid (hTurns _) (hToks _ fun t ht => ?_) i x hx
      rw [← hb] at ht
      exact List.mem_append.2 (.inr (hnewToks ix hix t ht))
    -- a block of the callee's, back
    have hblkNo : ∀ (ix s : Nat) (l : Loc) (b b' : ABlk) (t0 f0 : Nat), ix < Hc.n → Hc.get ix = some b → ρc' ix s = some l → backB m false t0 f0 (some b) = some b' → BRel ρ' w' b' s l := by
      intro ix s l b b' t0 f0 hix hb hl hbb
      have hB := hRc'.blk _ _ _ _ hl hb
      cases b with
      | cells c =>
        simp only [backB, cond_false, Option.some.injEq] at hbb
        subst hbb
        refine ⟨hB.1, fun hv => ?_⟩
        have hC := hB.2 hv
        obtain ⟨n, s1, s2, s3, s4⟩ := hC.shape
        have q1 := lenAt_top (b := c) (wv := c.wver) (pf := c.pf) (turn_len m c) s
        refine ⟨⟨n, s1, fun h => by rw [turn_len]; exact s2 h, fun h => ⟨(s3 h).1, by rw [q1]; exact (s3 h).2⟩, s4⟩, ?_, hC.esz, hC.hi⟩
        intro i x hi hx
        obtain ⟨u, hu, hrel⟩ := hcl2 ix c hix hb i x hx
        obtain ⟨x', g1, g2⟩ := hC.vals i u (by rw [q1] at hi; exact hi) hu
        exact ⟨x', g1, hrel x' g2⟩
      | map es =>
        simp only [backB, Option.some.injEq] at hbb
        subst hbb
        obtain ⟨h0, ms, clock, q1, q2, q3⟩ := hB
        refine ⟨h0, ms, clock, q1, by rw [renM_length]; exact q2, ?_⟩
        intro i e mm he hmm2
        rw [renM_get, Option.map_eq_some_iff] at he
        obtain ⟨e0, he0, rfl⟩ := he
        obtain ⟨k1, k2, k3⟩ := q3 i e0 mm he0 hmm2
        obtain ⟨z1, z2⟩ := refsM_mem (List.mem_of_getElem? he0)
        refine ⟨k1, k2, hval k3 fun t ht => List.mem_append.2 (.inr (hnewToks ix hix t ?_))⟩
        rw [hb]; exact z2 t ht
      | tok x y z =>
        simp only [backB, Option.some.injEq] at hbb
        subst hbb
        exact hB
    have hix_of : ∀ {ix s : Nat} {l : Loc}, ρc' ix s = some l → ix < Hc.n := by
      intro ix s l hl
      rcases Nat.lt_or_ge ix Hc.n with h | h
      · exact h
      · rw [hBc' _ _ h] at hl; cases hl
    have hback : ∀ (ix id : Nat), L[ix]? = some id → cmpAt id cs = true → ∃ b, Hc.get ix = some (.cells b) ∧ b.lens ≠ [] := by
      have key : ∀ (cs2 : List (Nat × Bool)) (k : Nat), backsOk Hc cs2 k = true → ∀ (j : Nat) (c : Nat × Bool), cs2[j]? = some c → c.2 = true → isOpen (Hc.get (k + j)) = true := by
        intro cs2
        induction cs2 with
        | nil => intro k _ j c h; simp at h
        | cons a cs2 ih =>
          intro k h j c hc h2
          simp only [backsOk, Bool.and_eq_true] at h
          cases j with
          | zero => simp at hc; subst hc; have := h.1; rw [h2, cond_true] at this; exact this
          | succ j => have := ih (k + 1) h.2 j c (by simpa using hc) h2; rw [show k + (j + 1) = k + 1 + j by omega]; exact this
      intro ix id h1 h2
      have := key cs 0 hbacks ix _ (hcl.2 ix id h1) h2
      rw [Nat.zero_add] at this
      unfold isOpen at this
      split at this
      · rename_i b hb
        split at this
        · cases this
        · rename_i hne; exact ⟨b, hb, hne⟩
      · cases this
    have hdisj : ∀ {id ver : Nat} {l : Loc}, ρ id ver = some l → id ∉ L → ∀ (ix s : Nat) (l' : Loc), turned ρ H1 L cs ix s = some l' → l'.block ≠ l.block := by
      intro id ver l h1 h2 ix s l' h3 e
      obtain ⟨id0, ver0, h4, h5⟩ := hρ1 h3
      have := hR.sep _ _ _ _ _ _ h5 h1 e
      exact h2 (by rw [← this]; exact List.mem_of_getElem? h4)
    have hzl : ∀ (b : CBlk) (t0 : Nat), b.lens ≠ [] → (b.lens ++ zeros t0) ≠ [] ∧ (b.lens ++ zeros t0).length - 1 = (b.lens.length - 1) + t0 := by
      intro b t0 h
      obtain ⟨z1, _⟩ := zeros_spec t0
      cases hl : b.lens with
      | nil => exact absurd hl h
      | cons a r => simp [z1]
    have hRel : Rel ρ' B H3 w' := by
      refine ⟨?_, ?_, n2, ?_, ?_, Nat.le_trans hR.base hE.size, ⟨hRc'.fz.cell, ?_⟩⟩
      · intro id ver l b hl hb
        rcases src hl with ⟨h1, h2, h3⟩ | ⟨ix, s, h1, h2⟩
        · rcases h2 with h2 | ⟨hc, h2, h4⟩
          · have hlt : id < H1.n := by
              rcases h3 with h3 | h3
              · exact h3
              · have := n2 id b hb; omega
            rw [gOld id h2 hlt] at hb
            refine (hR.blk _ _ _ _ h1 hb).keep hsub (hE.frame _ (hR.bnd _ _ _ h1).2 fun ix s l' h5 => hdisj h1 h2 ix s l' h5)
          · have h5 := hplace h2
            obtain ⟨c, hc1, hc2⟩ := hback _ _ h5 hc
            rw [gL _ _ h5, hc, hc1] at hb
            simp only [backB, cond_true, Option.some.injEq] at hb
            subst hb
            obtain ⟨z1, z2⟩ := hzl c (topOf (H1.get id)) hc2
            refine ⟨?_, fun hv => ?_⟩
            · simp only [CBlk.top]; omega
            · have hv : topOf (H1.get id) + c.wver ≤ ver := hv
              omega
        · have hix := hix_of h1
          rcases h2 with ⟨h2, h3⟩ | ⟨j, hj, rfl, rfl, rfl⟩
          · rw [gL _ _ h2] at hb
            rcases h3 with ⟨hc, rfl⟩ | ⟨hc, rfl⟩
            · obtain ⟨c, hc1, hc2⟩ := hback _ _ h2 hc
              rw [hc, hc1] at hb
              simp only [backB, cond_true, Option.some.injEq] at hb
              subst hb
              obtain ⟨z1, z2⟩ := hzl c (topOf (H1.get id)) hc2
              have hB := hRc'.blk _ _ _ _ h1 hc1
              have hs : s ≤ c.top := hB.1
              refine ⟨by simp only [CBlk.top]; unfold CBlk.top at hs; omega, fun hv => ?_⟩
              have hv : topOf (H1.get id) + c.wver ≤ topOf (H1.get id) + s := hv
              have hC := hB.2 (by omega)
              obtain ⟨n, s1, s2, s3, s4⟩ := hC.shape
              have hlenAt : ∀ (X : CBlk), X.lens = c.lens ++ zeros (topOf (H1.get id)) → X.lenAt (topOf (H1.get id) + s) = c.lenAt s := by
                intro X hX
                unfold CBlk.lenAt CBlk.top
                unfold CBlk.top at hs
                rw [hX, z2]
                cases hl : c.lens with
                | nil => exact absurd hl hc2
                | cons a r =>
                  simp only [List.cons_append]
                  rw [hl] at hs
                  simp only [List.length_cons, Nat.add_sub_cancel] at hs ⊢
                  rw [show r.length + topOf (H1.get id) - (topOf (H1.get id) + s) = r.length - s by omega]
                  rw [List.getD_eq_getElem?_getD, List.getD_eq_getElem?_getD, ← List.cons_append, List.getElem?_append_left (by simp only [List.length_cons]; omega)]
              refine ⟨⟨n, s1, fun h => absurd h z1, fun _ => ⟨(s3 hc2).1, by rw [hlenAt _ rfl]; exact (s3 hc2).2⟩, fun i hi hi2 => s4 i (Nat.le_trans (Nat.le_max_right _ _) hi) hi2⟩, ?_, hC.esz, fun hm => Nat.le_trans (hC.hi hm) (Nat.le_max_right _ _)⟩
              intro i x hi hx
              obtain ⟨u, hu, hrel⟩ := hcl2 ix c hix hc1 i x hx
              obtain ⟨x', g1, g2⟩ := hC.vals i u (by rw [hlenAt _ rfl] at hi; exact hi) hu
              exact ⟨x', g1, hrel x' g2⟩
            · cases hg : Hc.get ix with
              | none => rw [hg] at hb; cases hb
              | some bb =>
                rw [hg, hc] at hb
                exact hblkNo ix ver l bb b _ _ hix hg h1 hb
          · rw [gNew j hj] at hb
            cases hg : Hc.get (L.length + j) with
            | none => rw [hg] at hb; cases hb
            | some bb =>
              rw [hg] at hb
              exact hblkNo _ _ l bb b _ _ hix hg h1 hb
      · intro id c hc
        have wfNo : ∀ ix bb t0 f0, Hc.get ix = some bb → backB m false t0 f0 (some bb) = some (.cells c) → c.WF := by
          intro ix bb t0 f0 hg hb
          cases bb with
          | cells b =>
            simp only [backB, cond_false, Option.some.injEq, ABlk.cells.injEq] at hb
            subst hb
            have hwf := hRc'.wf _ _ hg
            exact ⟨fun n hn => by rw [turn_len]; exact hwf.lens n hn, hwf.wver, fun hp => turn_noRefs hwf hp⟩
          | map es => cases hb
          | tok x y z => cases hb
        by_cases h1 : id < H1.n
        · by_cases h2 : id ∈ L
          · have h3 := hplace h2
            rw [gL _ _ h3] at hc
            cases hcm : cmpAt id cs with
            | false =>
              rw [hcm] at hc
              cases hg : Hc.get (idxOf id L 0) with
              | none => rw [hg] at hc; cases hc
              | some bb => rw [hg] at hc; exact wfNo _ _ _ _ hg hc
            | true =>
              obtain ⟨b, hb1, hb2⟩ := hback _ _ h3 hcm
              rw [hcm, hb1] at hc
              simp only [backB, cond_true, Option.some.injEq, ABlk.cells.injEq] at hc
              subst hc
              have hwf := hRc'.wf _ _ hb1
              obtain ⟨z1, z2⟩ := hzl b (topOf (H1.get id)) hb2
              refine ⟨fun n hn => ?_, ?_, fun hp => turn_noRefs hwf hp⟩
              · simp only at hn ⊢
                rw [turn_len]
                rcases List.mem_append.1 hn with h | h
                · exact hwf.lens n h
                · rw [(zeros_spec _).2 n h]; exact Nat.zero_le _
              · simp only [CBlk.top]
                have := hwf.wver
                unfold CBlk.top at this
                show topOf (H1.get id) + b.wver ≤ _
                omega
          · rw [gOld id h2 h1] at hc
            exact hR.wf _ _ hc
        · have hlt := n2 id _ hc
          obtain ⟨j, rfl⟩ : ∃ j, id = H1.n + j := ⟨id - H1.n, by omega⟩
          rw [gNew j (by omega)] at hc
          cases hg : Hc.get (L.length + j) with
          | none => rw [hg] at hc; cases hc
          | some bb => rw [hg] at hc; exact wfNo _ _ _ _ hg hc
      · intro id ver l id' ver' l' h1 h2 e
        -- an old entry and a callee's
        have mix : ∀ {id ver l id' l' ix s}, ρ id ver = some l → ρc' ix s = some l' → l.block = l'.block → ((L[ix]? = some id') ∨ ∃ j, j < Hc.n - L.length ∧ ix = L.length + j ∧ id' = H1.n + j) → id = id' := by
          intro id ver l id' l' ix s g1 g2 g3 g4
          rcases hE.fresh ix s l' g2 with g5 | ⟨ix0, ver0, l0, g5, g6⟩
          · have := (hR.bnd _ _ _ g1).2; omega
          · obtain ⟨id0, ver1, g7, g8⟩ := hρ1 g5
            have g9 := hR.sep _ _ _ _ _ _ g8 g1 (g6.trans g3.symm)
            have g10 := hE.pin ix0 ver0 l0 (get_lt g7) g5
            have g11 := hRc'.sep _ _ _ _ _ _ g10 g2 g6
            subst g11
            rcases g4 with g4 | ⟨j, hj, rfl, _⟩
            · rw [g7] at g4; cases g4; exact g9.symm
            · have := get_lt g7; omega
        rcases src h1 with ⟨g1, _, _⟩ | ⟨ix, s, g1, g2⟩ <;> rcases src h2 with ⟨g3, _, _⟩ | ⟨ix', s', g3, g4⟩
        · exact hR.sep _ _ _ _ _ _ g1 g3 e
        · refine mix g1 g3 e ?_
          rcases g4 with ⟨g4, _⟩ | ⟨j, a1, a2, a3, _⟩
          · exact .inl g4
          · exact .inr ⟨j, a1, a2, a3⟩
        · refine (mix g3 g1 e.symm ?_).symm
          rcases g2 with ⟨g4, _⟩ | ⟨j, a1, a2, a3, _⟩
          · exact .inl g4
          · exact .inr ⟨j, a1, a2, a3⟩
        · have := hRc'.sep _ _ _ _ _ _ g1 g3 e
          subst this
          rcases g2 with ⟨g2, _⟩ | ⟨j, a1, a2, a3, _⟩ <;> rcases g4 with ⟨g4, _⟩ | ⟨j', c1, c2, c3, _⟩
          · rw [g2] at g4; cases g4; rfl
          · have := get_lt g2; omega
          · have := get_lt g4; omega
          · omega
      · intro id ver l h1
        rcases src h1 with ⟨g1, _, _⟩ | ⟨ix, s, g1, _⟩
        · have := hR.bnd _ _ _ g1
          have := hE.size
          omega
        · exact hRc'.bnd _ _ _ g1
      · intro id ver l i x b hl hx hb
        have hx : ρc'.cell l.block i = some x := hx
        have frNo : ∀ bb t0 f0, backB m false t0 f0 (some bb) = some b → frzAt bb l i → frzAt b l i := by
          intro bb t0 f0 h1 h2
          cases bb with
          | cells c => simp only [backB, cond_false, Option.some.injEq] at h1; subst h1; exact h2
          | map es => exact h2.elim
          | tok x y z => simp only [backB, Option.some.injEq] at h1; subst h1; exact h2
        rcases src hl with ⟨h1, h2, h3⟩ | ⟨ix, s, h1, h2⟩
        · rcases h2 with h2 | ⟨hc, h2, h4⟩
          · have hlt : id < H1.n := by
              rcases h3 with h3 | h3
              · exact h3
              · have := n2 id b hb; omega
            rw [gOld id h2 hlt] at hb
            rcases hE.cells _ _ _ hx with g1 | g1 | ⟨ix0, s0, l0, g1, g2⟩
            · exact hR.fz.sep _ _ _ _ _ _ h1 g1 hb
            · have := (hR.bnd _ _ _ h1).2; omega
            · exact absurd g2 (hdisj h1 h2 ix0 s0 l0 g1)
          · have h5 := hplace h2
            obtain ⟨c, hc1, hc2⟩ := hback _ _ h5 hc
            obtain ⟨b1, hb1, _⟩ := htop h2 hc
            rw [gL _ _ h5, hc, hc1, hb1] at hb
            simp only [backB, cond_true, Option.some.injEq] at hb
            subst hb
            show i < Nat.max _ _
            rcases hE.cells _ _ _ hx with g1 | g1 | ⟨ix0, s0, l0, g1, g2⟩
            · have := hR.fz.sep _ _ _ _ _ _ h1 g1 hb1
              exact Nat.lt_of_lt_of_le this (Nat.le_max_left _ _)
            · have := (hR.bnd _ _ _ h1).2; omega
            · obtain ⟨id0, ver1, g7, g8⟩ := hρ1 g1
              have g9 := hR.sep _ _ _ _ _ _ g8 h1 g2
              subst g9
              have g10 := hE.pin ix0 s0 l0 (get_lt g7) g1
              have g11 : ix0 = idxOf id0 L 0 := (hplace' g7).symm
              rw [← g11] at hc1
              rw [← g2] at hx
              have := hRc'.fz.sep _ _ _ _ _ _ g10 hx hc1
              exact Nat.lt_of_lt_of_le this (Nat.le_max_right _ _)
        · rcases h2 with ⟨h2, h3⟩ | ⟨j, hj, rfl, rfl, rfl⟩
          · rw [gL _ _ h2] at hb
            rcases h3 with ⟨hc, rfl⟩ | ⟨hc, rfl⟩
            · obtain ⟨c, hc1, hc2⟩ := hback _ _ h2 hc
              rw [hc, hc1] at hb
              simp only [backB, cond_true, Option.some.injEq] at hb
              subst hb
              have := hRc'.fz.sep _ _ _ _ _ _ h1 hx hc1
              exact Nat.lt_of_lt_of_le this (Nat.le_max_right _ _)
            · cases hg : Hc.get ix with
              | none => rw [hg] at hb; cases hb
              | some bb => rw [hg, hc] at hb; exact frNo bb _ _ hb (hRc'.fz.sep _ _ _ _ _ _ h1 hx hg)
          · rw [gNew j hj] at hb
            cases hg : Hc.get (L.length + j) with
            | none => rw [hg] at hb; cases hb
            | some bb => rw [hg] at hb; exact frNo bb _ _ hb (hRc'.fz.sep _ _ _ _ _ _ h1 hx hg)
    refine ⟨ρ', hval hv fun t ht => List.mem_append.2 (.inl ht), hRel, ?_⟩
    refine ⟨hsub, hE.size, ?_, ?_, ?_, by omega, ?_, ?_, hE.same, ?_⟩
    · intro b hb himg
      refine hE.frame b hb fun ix s l h1 e => ?_
      obtain ⟨id, ver, h2, h3⟩ := hρ1 h1
      obtain ⟨bb, hbb⟩ := hasAll_spec hall id (List.mem_of_getElem? h2)
      exact himg id ver l (by rw [hbb]; rfl) h3 e
    · intro id ver l h1 h0
      rcases src h1 with ⟨g1, _, _⟩ | ⟨ix, s, g1, g2⟩
      · rw [h0] at g1; cases g1
      · rcases hE.fresh ix s l g1 with g3 | ⟨ix0, s0, l0, g3, g4⟩
        · exact .inl g3
        · obtain ⟨id0, ver1, g7, g8⟩ := hρ1 g3
          have g10 := hE.pin ix0 s0 l0 (get_lt g7) g3
          have g11 := hRc'.sep _ _ _ _ _ _ g10 g1 g4
          subst g11
          rcases g2 with ⟨g2, _⟩ | ⟨j, hj, rfl, _, _⟩
          · rw [g7] at g2
            cases g2
            obtain ⟨bb, hbb⟩ := hasAll_spec hall _ (List.mem_of_getElem? g7)
            exact .inr ⟨_, l0, by rw [hbb]; rfl, g8, g4⟩
          · have := get_lt g7; omega
    · intro id ver l h1 h0
      rcases src h1 with ⟨g1, _, _⟩ | ⟨ix, s, g1, g2⟩
      · rw [h0] at g1; cases g1
      · rcases g2 with ⟨g2, _⟩ | ⟨j, hj, rfl, rfl, rfl⟩
        · obtain ⟨bb, hbb⟩ := hasAll_spec hall id (List.mem_of_getElem? g2)
          obtain ⟨s0, l0, g3⟩ := hE.dom ix s l (get_lt g2) g1
          obtain ⟨id0, ver1, g7, g8⟩ := hρ1 g3
          rw [g2] at g7
          cases g7
          exact .inr ⟨by rw [hbb]; rfl, ver1, l0, g8⟩
        · exact .inl ⟨by omega, by omega⟩
    · intro id h1
      by_cases h2 : id ∈ L
      · have h3 := hplace h2
        rw [gL _ _ h3]
        have h4 := hsomes (idxOf id L 0) (by rw [hcl.1]; exact get_lt h3)
        rw [Nat.zero_add] at h4
        obtain ⟨bb, hbb⟩ := Option.isSome_iff_exists.1 h4
        rw [hbb]
        cases bb with
        | cells c => simp only [backB]; cases cmpAt id cs <;> rfl
        | map es => rfl
        | tok x y z => rfl
      · obtain ⟨bb, hbb⟩ := Option.isSome_iff_exists.1 h1
        rw [gOld id h2 (hR.low id bb hbb)]
        exact h1
    · intro id h1
      by_cases h2 : id < H1.n
      · by_cases h3 : id ∈ L
        · obtain ⟨bb, hbb⟩ := hasAll_spec hall id h3
          exact .inl (by rw [hbb]; rfl)
        · rw [gOld id h3 h2] at h1; exact .inl h1
      · exact .inr (by omega)
    · intro b i x hx
      rcases hE.cells b i x hx with g1 | g1 | ⟨ix, s, l, g1, g2⟩
      · exact .inl g1
      · exact .inr (.inl g1)
      · obtain ⟨id, ver, h2, h3⟩ := hρ1 g1
        obtain ⟨bb, hbb⟩ := hasAll_spec hall id (List.mem_of_getElem? h2)
        exact .inr (.inr ⟨id, ver, l, by rw [hbb]; rfl, h3, g2⟩)

/- WITHOUT A WORLD -/

theorem seal_keys (P : Program) (H : AH) : ∀ (d : Nat) (l l2 : List Value) (fr : Frs), sealL P H d l = some (l2, fr) → FrKeys fr := by
  intro d
  induction d with
  | zero => intro l l2 fr h; cases h
  | succ d ih =>
    have one : ∀ v u f, sealV1 P H (sealL P H d) v = some (u, f) → FrKeys f := by
      intro v u f h
      unfold sealV1 at h
      split at h
      · cases h; exact frKeys_nil
      · cases h; exact frKeys_nil
      · rename_i a n c
        unfold sealRow at h
        split at h
        · rename_i b hb
          cases hq : (capOk H (elemSize P b) (n + 1) a c && rdOk b (aver a) (a.off + (n + 1) * elemSize P b)) with
          | false => rw [hq, cond_false] at h; cases h
          | true =>
            rw [hq, cond_true] at h
            have fin : ∀ cs g, FrKeys g → (bif noRefsL cs && okKey a.block then some (FL (n + 1) cs, (a.block, a.off + (n + 1) * elemSize P b) :: g) else none) = some (u, f) → FrKeys f := by
              intro cs g hg h
              cases hq2 : (noRefsL cs && okKey a.block) with
              | false => rw [hq2, cond_false] at h; cases h
              | true =>
                rw [hq2, cond_true] at h
                cases h
                simp only [Bool.and_eq_true] at hq2
                intro p hp
                simp only [List.mem_cons] at hp
                rcases hp with rfl | hp
                · exact hq2.2
                · exact hg p hp
            cases hp : b.pf with
            | true => rw [hp, cond_true] at h; exact fin _ _ frKeys_nil h
            | false =>
              rw [hp, cond_false] at h
              split at h
              · rename_i cs g hs; exact fin cs g (ih _ _ _ hs) h
              · cases h
        · cases h
      · split at h
        · rename_i hs; cases h; exact ih _ _ _ hs
        · cases h
      · split at h
        · rename_i hs; cases h; exact ih _ _ _ hs
        · cases h
      · split at h
        · rename_i hs; cases h; exact ih _ _ _ hs
        · cases h
      · cases h; exact frKeys_nil
      · split at h
        · rename_i hs1 hs2
          cases h
          intro x hx
          rcases List.mem_append.1 hx with hx | hx
          · exact ih _ _ _ hs1 x hx
          · exact ih _ _ _ hs2 x hx
        · cases h
      · cases h; exact frKeys_nil
    intro l
    induction l with
    | nil => intro l2 fr h; cases h; exact frKeys_nil
    | cons v l ihl =>
      intro l2 fr h
      have e : sealL P H (d + 1) (v :: l) = sealC (one2 (sealV1 P H (sealL P H d) v)) (sealL P H (d + 1) l) := rfl
      rw [e] at h
      cases hs : sealV1 P H (sealL P H d) v with
      | none => rw [hs] at h; simp [one2, sealC] at h
      | some p =>
        obtain ⟨u, f⟩ := p
        cases hr : sealL P H (d + 1) l with
        | none => rw [hs, hr] at h; simp [one2, sealC] at h
        | some q =>
          obtain ⟨l3, g⟩ := q
          rw [hs, hr] at h
          simp only [one2, sealC, Option.some.injEq, Prod.mk.injEq] at h
          obtain ⟨_, rfl⟩ := h
          intro x hx
          rcases List.mem_append.1 hx with hx | hx
          · exact one _ _ _ hs x hx
          · exact ihl _ _ hr x hx

theorem raise_n (H : AH) : ∀ l : Frs, (raise H l).n = H.n := by
  intro l
  induction l with
  | nil => rfl
  | cons p l ih =>
    rw [raise_cons]
    unfold frz1
    split
    · rw [AH.set_eq]; exact ih
    · exact ih

theorem setO_n (H : AH) (id : Nat) (b : Option ABlk) : (setO H id b).n = H.n := by
  cases b with
  | none => rfl
  | some b => rw [setO, AH.set_eq]

theorem backs_n (m : Nm) (H1 Hc : AH) : ∀ (cs : List (Nat × Bool)) (ix : Nat) (H : AH), (backs m H1 Hc cs ix H).n = H.n := by
  intro cs
  induction cs with
  | nil => intro ix H; rfl
  | cons c cs ih => intro ix H; simp only [backs]; rw [ih, setO_n]

theorem news_n (m : Nm) (Hc : AH) : ∀ (d k : Nat) (H : AH), (news m Hc k d H).n = H.n + d := by
  intro d
  induction d with
  | zero => intro k H; rfl
  | succ d ih =>
    intro k H
    have e : news m Hc k (d + 1) H = news m Hc (k + 1) d (addO H (backB m false 0 0 (Hc.get k))) := rfl
    rw [e, ih, addO_n]; omega

theorem heapOf_n : ∀ (l : List (Option ABlk)) (H : AH), (heapOf l H).n = H.n + l.length := by
  intro l
  induction l with
  | nil => intro H; rfl
  | cons b l ih => intro H; rw [heapOf_cons, ih, addO_n, List.length_cons]; omega

theorem renBs_length (H : AH) (m : Nm) : ∀ cs, (renBs H m cs).length = cs.length := by
  intro cs
  induction cs with
  | nil => rfl
  | cons c cs ih => simp [renBs, ih]

theorem pins_le (p : Nat) : ∀ (L : List Nat) (i : Nat), pins p L i = true → p ≤ i + L.length := by
  intro L
  induction L with
  | nil => intro i h; simp only [pins, Nat.ble_eq] at h; simpa using h
  | cons a L ih =>
    intro i h
    simp only [pins] at h
    cases hb : Nat.blt i p with
    | false =>
      have : ¬ i < p := fun h => by rw [show Nat.blt i p = true from Nat.ble_eq_true_of_le h] at hb; cases hb
      omega
    | true =>
      rw [hb, cond_true] at h
      simp only [Bool.and_eq_true] at h
      have := ih (i + 1) h.2
      simp only [List.length_cons]; omega

theorem norm_n {H : AH} {p : Nat} {vs : List Value} {N : Nrm} (h : normA H p vs = some N) : p ≤ N.H.n := by
  unfold normA normK at h
  split at h
  · rename_i L _
    cases hq : (noDup L && (pins p L 0 && hasAll H L && (refsOk L (refsL vs ++ blocksRefs H L) && (okKey L.length && toksOk (cmpsOf H (refsL vs ++ blocksRefs H L) p L 0) (toksL vs ++ blocksToks H L))))) with
    | false => rw [hq, cond_false] at h; cases h
    | true =>
      rw [hq, cond_true] at h
      cases h
      simp only [Bool.and_eq_true] at hq
      have := pins_le p L 0 hq.2.1.1
      simp only
      rw [heapOf_n, renBs_length, (cmpsOf_spec _ _ _ _ _).1]
      show p ≤ 0 + L.length
      omega
  · cases h

theorem norm_static {H : AH} {p : Nat} {vs : List Value} {N : Nrm} (h : normA H p vs = some N) : noDup N.L = true ∧ hasAll H N.L = true := by
  unfold normA normK at h
  split at h
  · rename_i L _
    cases hq : (noDup L && (pins p L 0 && hasAll H L && (refsOk L (refsL vs ++ blocksRefs H L) && (okKey L.length && toksOk (cmpsOf H (refsL vs ++ blocksRefs H L) p L 0) (toksL vs ++ blocksToks H L))))) with
    | false => rw [hq, cond_false] at h; cases h
    | true =>
      rw [hq, cond_true] at h
      cases h
      simp only [Bool.and_eq_true] at hq
      exact ⟨hq.1, hq.2.1.2⟩
  · cases h

theorem eqF_true {a b : Int} (h : eqF a b = true) : a = b := by rw [eqF_eq] at h; simpa using h

mutual
theorem beqV_eq : ∀ (a b : Value), beqV a b = true → a = b
  | .bool a, b, h => by cases b <;> simp [beqV] at h; rw [h]
  | .int k a, b, h => by
    cases b <;> simp only [beqV, Bool.and_eq_true] at h <;> first | (cases h; done) | skip
    rw [sameKind_eq h.1, eqF_true h.2]
  | .float k a, b, h => by cases b <;> simp [beqV] at h; rw [h.1, h.2]
  | .complex k a c, b, h => by cases b <;> simp [beqV] at h; rw [h.1, h.2.1, h.2.2]
  | .string a, b, h => by
    cases b <;> simp [beqV] at h
    rename_i s
    congr 1
    cases a; cases s
    simp_all
  | .pointer none, b, h => by cases b <;> first | (simp [beqV] at h; done) | (rename_i x; cases x <;> first | rfl | simp [beqV] at h)
  | .pointer (some a), b, h => by
    cases b <;> first | (simp [beqV] at h; done) | skip
    rename_i x
    cases x <;> simp [beqV] at h
    rename_i c
    cases a; cases c; simp_all
  | .slice none l c, b, h => by
    cases b <;> first | (simp [beqV] at h; done) | skip
    rename_i x _ _
    cases x <;> simp [beqV] at h
    simp_all
  | .slice (some a) l c, b, h => by
    cases b <;> first | (simp [beqV] at h; done) | skip
    rename_i x _ _
    cases x <;> simp [beqV] at h
    rename_i d
    cases a; cases d; simp_all
  | .map a, b, h => by cases b <;> simp [beqV] at h; rw [h]
  | .chan a, b, h => by cases b <;> simp [beqV] at h
  | .nilFunc, b, h => by cases b <;> first | rfl | simp [beqV] at h
  | .nilIface, b, h => by cases b <;> first | rfl | simp [beqV] at h
  | .func f a c, b, h => by
    cases b <;> first | (simp [beqV] at h; done) | skip
    simp only [beqV, Bool.and_eq_true, beq_iff_eq] at h
    rw [h.1, beqA_eq _ _ h.2.1, beqA_eq _ _ h.2.2]
  | .iface t a, b, h => by
    cases b <;> first | (simp [beqV] at h; done) | skip
    simp only [beqV, Bool.and_eq_true, Nat.beq_eq] at h
    rw [h.1, beqV_eq _ _ h.2]
  | .agg a, b, h => by
    cases b <;> first | (simp [beqV] at h; done) | skip
    simp only [beqV] at h
    rw [beqA_eq _ _ h]
  | .tuple a, b, h => by
    cases b <;> first | (simp [beqV] at h; done) | skip
    simp only [beqV] at h
    rw [beqA_eq _ _ h]
theorem beqA_eq : ∀ (a b : Array Value), beqA a b = true → a = b
  | ⟨a⟩, ⟨b⟩, h => by simp only [beqA] at h; rw [beqL_eq _ _ h]
theorem beqL_eq : ∀ (a b : List Value), beqL a b = true → a = b
  | [], b, h => by cases b <;> first | rfl | simp [beqL] at h
  | a :: r, b, h => by
    cases b <;> first | (simp [beqL] at h; done) | skip
    simp only [beqL, Bool.and_eq_true] at h
    rw [beqV_eq _ _ h.1, beqL_eq _ _ h.2]
end

theorem beqP_eq : ∀ (a b : List (Value × Value)), beqP a b = true → a = b
  | [], b, h => by cases b <;> first | rfl | simp [beqP] at h
  | a :: r, b, h => by
    cases b <;> first | (simp [beqP] at h; done) | skip
    simp only [beqP, Bool.and_eq_true] at h
    rw [beqP_eq _ _ h.2.2]
    congr 1
    exact Prod.ext (beqV_eq _ _ h.1) (beqV_eq _ _ h.2.1)

theorem beqB_eq {a b : ABlk} (h : beqB a b = true) : a = b := by
  cases a with
  | cells a =>
    cases b with
    | cells b =>
      simp only [beqB, beqC, Bool.and_eq_true, Nat.beq_eq, beq_iff_eq] at h
      obtain ⟨h1, h2, h3, h4, h5, h6, h7, h8⟩ := h
      cases a; cases b
      simp only at *
      rw [beqL_eq _ _ h1, h2, h3, h4, h5, h6, h7, h8]
    | tok a b c => simp [beqB] at h
    | map b => simp [beqB] at h
  | map a =>
    cases b with
    | cells b => simp [beqB] at h
    | map b => simp only [beqB] at h; rw [beqP_eq _ _ h]
    | tok a b c => simp [beqB] at h
  | tok x y z =>
    cases b with
    | cells b => simp [beqB] at h
    | map b => simp [beqB] at h
    | tok a b c => simp only [beqB, Bool.and_eq_true, Nat.beq_eq] at h; rw [h.1, h.2.1, h.2.2]

theorem changed_spec {H1 H3 : AH} {L : List Nat} {id : Nat} (hL : id ∈ L) (h : id ∉ changed H1 H3 L) : H3.get id = H1.get id := by
  unfold changed at h
  rw [List.mem_filter] at h
  have : beqBO (H1.get id) (H3.get id) = true := by
    cases hq : beqBO (H1.get id) (H3.get id) with
    | true => rfl
    | false => exact absurd ⟨hL, by rw [hq]; rfl⟩ h
  unfold beqBO at this
  split at this
  · rename_i a b e1 e2
    rw [e1, e2, beqB_eq this]
  · cases this

theorem backs_frame (m : Nm) (H1 Hc : AH) : ∀ (cs : List (Nat × Bool)) (ix : Nat) (H : AH), (∀ c ∈ cs, okKey c.1 = true) → ∀ id, (∀ c ∈ cs, c.1 ≠ id) → (backs m H1 Hc cs ix H).get id = H.get id := by
  intro cs
  induction cs with
  | nil => intro ix H _ id _; rfl
  | cons c cs ih =>
    intro ix H hk id hid
    simp only [backs]
    rw [ih _ _ (fun c hc => hk c (by simp [hc])) id fun c hc => hid c (by simp [hc])]
    unfold setO
    split
    · rw [AH.get_set (hk c (by simp)), if_neg fun e => hid c (by simp) e.symm]
    · rfl

theorem backs_low (m : Nm) (H1 Hc : AH) : ∀ (cs : List (Nat × Bool)) (ix : Nat) (H : AH), (∀ c ∈ cs, okKey c.1 = true ∧ c.1 < H.n) → Low H → Low (backs m H1 Hc cs ix H) := by
  intro cs
  induction cs with
  | nil => intro ix H _ h; exact h
  | cons c cs ih =>
    intro ix H hk hl
    simp only [backs]
    have hc := hk c (by simp)
    refine ih _ _ (fun c hc => by rw [setO_n]; exact hk c (by simp [hc])) ?_
    unfold setO
    split
    · intro id b hb
      rw [AH.get_set hc.1] at hb
      rw [AH.set_eq]
      simp only
      split at hb
      · rename_i e; rw [e]; exact hc.2
      · exact hl id b hb
    · exact hl

theorem merge_static {H1 : AH} (hlow : Low H1) {vs : List Value} {N : Nrm} (hN : normA H1 0 vs = some N) {v : Value} {Hc : AH} {fr : Frs} {cs : List (Nat × Bool)} (hcs : ∀ c ∈ cs, c.1 ∈ N.L) {v2 : Value} {nb : Option ABlk} {eff : Bool} {H3 : AH} {wr : List Nat}
    (hm : mergeA H1 fr N.L cs v Hc = .did v2 nb eff H3 wr) : (∀ id, id ∉ N.L → id < H1.n → H3.get id = H1.get id) ∧ Low H3 := by
  obtain ⟨_, hall⟩ := norm_static hN
  unfold mergeA at hm
  cases hq : (keysOk N.L && (Nat.ble N.L.length Hc.n && (okKey (H1.n + Hc.n) && (topsOk N.L.length (topsOf H1 cs) (toks v ++ newToks Hc Hc.n 0) && (backsOk Hc cs 0 && hasAll Hc (upto N.L.length)))))) with
  | false => rw [hq, cond_false] at hm; cases hm
  | true =>
    rw [hq, cond_true] at hm
    simp only [Bool.and_eq_true, Nat.ble_eq] at hq
    obtain ⟨hkeys, hle, hkey, _⟩ := hq
    cases hm
    have hkL : ∀ c ∈ cs, okKey c.1 = true ∧ c.1 < H1.n := by
      intro c hc
      obtain ⟨b, hb⟩ := hasAll_spec hall c.1 (hcs c hc)
      exact ⟨list_all hkeys _ (hcs c hc), hlow _ _ hb⟩
    obtain ⟨_, nlow, n3, _⟩ := news_spec (backNm H1.n N.L.length N.L (topsOf H1 cs)) Hc (Hc.n - N.L.length) N.L.length (backs (backNm H1.n N.L.length N.L (topsOf H1 cs)) H1 Hc cs 0 H1) (by rw [backs_n]; exact okKey_lt hkey (by omega)) (backs_low _ _ _ _ _ _ hkL hlow)
    refine ⟨fun id h1 h2 => ?_, nlow⟩
    rw [n3 id (by rw [backs_n]; exact h2), backs_frame _ _ _ _ _ _ (fun c hc => (hkL c hc).1) id fun c hc e => h1 (by rw [← e]; exact hcs c hc)]

theorem merge_shape {H1 : AH} {L : List Nat} {v : Value} {Hc : AH} {fr : Frs} {cs : List (Nat × Bool)} {v2 : Value} {nb : Option ABlk} {eff : Bool} {H3 : AH} {wr : List Nat}
    (hm : mergeA H1 fr L cs v Hc = .did v2 nb eff H3 wr) : nb = none ∧ eff = true ∧ wr = changed H1 H3 L ++ frIds fr ∧ H1.n ≤ H3.n := by
  unfold mergeA at hm
  cases hq : (keysOk L && (Nat.ble L.length Hc.n && (okKey (H1.n + Hc.n) && (topsOk L.length (topsOf H1 cs) (toks v ++ newToks Hc Hc.n 0) && (backsOk Hc cs 0 && hasAll Hc (upto L.length)))))) with
  | false => rw [hq, cond_false] at hm; cases hm
  | true =>
    rw [hq, cond_true] at hm
    cases hm
    exact ⟨rfl, rfl, rfl, by rw [news_n, backs_n]; omega⟩

/- CALLS -/

/-- What a task comes to (part one: calls). -/
def RecCalls (P : Program) (G : Nat → Option (List Value)) (rec : Rec) : Prop := ∀ f args H o H', rec (.call f args) H = some (o, H') → ∃ v, o = .val v ∧ CalleeOK P G f args H v H'

theorem vrl_mem {ρ : Ren} {l l' : List Value} (h : VRL ρ l l') {ρ' : Ren} {g : Value → Value} (hg : ∀ v v', v ∈ l → VR ρ v v' → VR ρ' (g v) v') : VRL ρ' (l.map g) l' := by
  refine ⟨by simpa using h.1, ?_⟩
  intro i v v' e e'
  rw [List.getElem?_map, Option.map_eq_some_iff] at e
  obtain ⟨u, hu, rfl⟩ := e
  exact hg u v' (List.mem_of_getElem? hu) (h.2 i u v' hu e')

theorem renVL_map (m : Nm) : ∀ l : List Value, renVL m l = l.map (renV m) := by
  intro l
  induction l with
  | nil => rfl
  | cons a l ih => simp [renVL, ih]

/-- A function whose arguments and result are frozen: it changes nothing that was there. -/
def KnownOK (P : Program) (G : Nat → Option (List Value)) (f : FuncId) (a : List Value) (v : Value) : Prop :=
  ∀ (ρ : Ren) (w : World) (args' : Array Value), (∀ b i x, ρ.cell b i = some x → w.cell? ⟨b, i, none⟩ = some x) → GOK G ρ → VRL ρ a args'.toList →
    Calls P f args' w fun e w' => ∃ ρ' v', e = .returned v' ∧ VR ρ' v v' ∧ (∀ id ver, ρ' id ver = ρ id ver) ∧ (∀ b i x, ρ.cell b i = some x → ρ'.cell b i = some x) ∧ (∀ b i x, ρ'.cell b i = some x → ρ.cell b i = some x ∨ w.heap.size ≤ b) ∧
      (∀ b i x, ρ'.cell b i = some x → w'.cell? ⟨b, i, none⟩ = some x) ∧ w.heap.size ≤ w'.heap.size ∧ (∀ b : Nat, b < w.heap.size → w'.heap[b]? = w.heap[b]?) ∧ w'.os = w.os ∧ w'.output = w.output

def KnowOK (P : Program) (G : Nat → Option (List Value)) (know : FuncId → Option (List Value → Option Value)) : Prop := ∀ f g a v, know f = some g → g a = some v → KnownOK P G f a v

theorem known_call {G : Nat → Option (List Value)} {f : FuncId} {args a : List Value} {H : AH} {v : Value} {fr : Frs} (hk : FrKeys fr)
    (hargs : ∀ (ρ : Ren) (B : Nat) (w : World) (args' : List Value), Rel ρ B H w → VRL ρ args args' → VRL (ρ.frz H w fr) a args') (hv : KnownOK P G f a v) : CallOK P G f args H v (raise H fr) (frIds fr) := by
  refine ⟨by rw [raise_n]; exact Nat.le_refl _, fun hlow => ?_, fun ρ B w args' hR hG hA hfree => ?_⟩
  · obtain ⟨_, r2, _, r4, _⟩ := raise_spec hlow fr hk
    exact ⟨r2, fun id hid _ => r4 id hid⟩
  · have hp := raise_rel (w := w) hR hk
    refine (hv (ρ.frz H w fr) w args' hp.rel.fz.cell (hG.cells (fun b i v h => (frz_sub ρ H w fr).cell b i v h)) (hargs ρ B w _ hR hA)).mono ?_
    rintro e w' ⟨ρ', v', rfl, h1, h2, h3, h4, h5, h6, h7, h8, h9⟩
    have hsub : Sub (ρ.frz H w fr) ρ' := ⟨fun id ver l hl => by rw [h2]; exact hl, h3⟩
    refine ⟨ρ', v', rfl, h1, hp.trans ⟨⟨?_, hp.rel.wf, hp.rel.low, ?_, ?_, Nat.le_trans hp.rel.base h6, ⟨h5, ?_⟩⟩, ?_⟩ hfree⟩
    · intro id ver l b hl hb
      rw [h2] at hl
      exact (hp.rel.blk id ver l b hl hb).keep hsub (h7 _ (hp.rel.bnd _ _ _ hl).2)
    · intro id ver l id' ver' l' hl hl' he
      rw [h2] at hl hl'
      exact hp.rel.sep _ _ _ _ _ _ hl hl' he
    · intro id ver l hl
      rw [h2] at hl
      have := hp.rel.bnd _ _ _ hl
      omega
    · intro id ver l i x b hl hx hb
      rw [h2] at hl
      rcases h4 _ _ _ hx with h | h
      · exact hp.rel.fz.sep id ver l i x b hl h hb
      · have := (hp.rel.bnd _ _ _ hl).2
        omega
    · refine ⟨hsub, h6, fun b hb _ => h7 b hb, fun id ver l h h' => (by rw [h2, h'] at h; cases h), fun id ver l h h' => (by rw [h2, h'] at h; cases h), Nat.le_refl _, fun _ h => h, fun _ h => .inl h, ⟨h8, h9⟩, fun b i x hx => ?_⟩
      rcases h4 b i x hx with h | h
      · exact .inl h
      · exact .inr (.inl h)

theorem callS_ok {cfg : Cfg} {rec : Rec} {G : Nat → Option (List Value)} (hrec : RecCalls P G rec) (hknow : KnowOK P G cfg.know) : CSOK P G (callS P cfg rec) := by
  intro f args H v nb eff H' wr h
  have main : ∀ (a : List Value) (fr : Frs), FrKeys fr → (∀ (ρ : Ren) (B : Nat) (w : World) (args' : List Value), Rel ρ B H w → VRL ρ args args' → VRL (ρ.frz H w fr) a args') → (∀ ρ B w, Rel ρ B H w → True) →
      callS2 rec f H (raise H fr) fr a (normA (raise H fr) 0 a) = .did v nb eff H' wr → nb = none ∧ eff = true ∧ CallOK P G f args H v H' wr := by
    intro a fr hk hargs _ h
    cases hN : normA (raise H fr) 0 a with
    | none => rw [hN] at h; cases h
    | some N =>
      rw [hN] at h
      simp only [callS2] at h
      cases hr : rec (.call f (renVL N.m a)) N.H with
      | none => rw [hr] at h; cases h
      | some r =>
        obtain ⟨o, Hc⟩ := r
        obtain ⟨v0, rfl, hn0, hcall⟩ := hrec _ _ _ _ _ hr
        rw [hr] at h
        simp only [callS3] at h
        -- the call itself
        have run : ∀ (ρ : Ren) (B : Nat) (w : World) (args' : Array Value), Rel ρ B H w → GOK G ρ → VRL ρ args args'.toList →
            Rel (ρ.frz H w fr) B (raise H fr) w ∧ Post ρ B H w (ρ.frz H w fr) (raise H fr) w ∧
            Calls P f args' w fun e w' => ∃ ρ' v', e = .returned v' ∧ VR ρ' v0 v' ∧ Rel ρ' B Hc w' ∧ Bd ρ' Hc ∧ Ext2 N.H.n (turned (ρ.frz H w fr) (raise H fr) N.L (cmpsOf (raise H fr) (refsL a ++ blocksRefs (raise H fr) N.L) 0 N.L 0)) N.H w ρ' Hc w' := by
          intro ρ B w args' hR hG hA
          have hp := raise_rel hR hk
          obtain ⟨q1, q2, q3, q4, _⟩ := norm_ok hN hp.rel
          refine ⟨hp.rel, hp, hcall _ B w args' q1 (hG.cells (fun b i v h => (frz_sub ρ H w fr).cell b i v h)) q2 ?_⟩
          rw [renVL_map]
          exact vrl_mem (hargs ρ B w _ hR hA) fun v v' hv hrel => q4 v v' hv hrel
        cases hq : (isNil N.L && flat v0) with
        | true =>
          rw [hq, cond_true] at h
          cases h
          simp only [Bool.and_eq_true] at hq
          have hL : N.L = [] := by
            have := hq.1
            cases hl : N.L with
            | nil => rfl
            | cons a r => rw [hl] at this; cases this
          refine ⟨rfl, rfl, Nat.le_refl _, fun hl => ⟨hl, fun _ _ _ => rfl⟩, fun ρ B w args' hR hG hA hfree => ?_⟩
          obtain ⟨_, _, hc⟩ := run ρ B w args' hR hG hA
          refine hc.mono ?_
          rintro e w' ⟨ρ', v', rfl, h1, h2, h3, h4⟩
          have hv := h1.of_flat hq.2
          subst hv
          refine ⟨ρ, _, rfl, .flat hq.2, ?_⟩
          have hsame : ∀ b : Nat, b < w.heap.size → w'.heap[b]? = w.heap[b]? := by
            intro b hb
            refine h4.frame b hb fun id ver l hl => ?_
            simp only [turned, hL] at hl
            simp at hl
          refine ⟨⟨fun id ver l b hl hb => (hR.blk id ver l b hl hb).keep (.refl ρ) (hsame _ (hR.bnd _ _ _ hl).2), hR.wf, hR.low, hR.sep, fun id ver l hl => ?_, Nat.le_trans hR.base h4.size, ⟨fun b i x hx => ?_, hR.fz.sep⟩⟩, ?_⟩
          · have := hR.bnd _ _ _ hl
            have := h4.size
            omega
          · have h5 := hR.fz.cell b i x hx
            have h6 := hsame b (hR.fz.lt hx)
            unfold World.cell? at h5 ⊢
            simp only at h5 ⊢
            rw [h6]; exact h5
          · exact ⟨.refl ρ, h4.size, fun b hb _ => hsame b hb, fun id ver l h h' => (by rw [h'] at h; cases h), fun id ver l h h' => (by rw [h'] at h; cases h), Nat.le_refl _, fun _ h => h, fun _ h => .inl h, h4.same, fun _ _ _ h => .inl h⟩
        | false =>
          rw [hq, cond_false] at h
          obtain ⟨m1, m2, m3, m4⟩ := merge_shape h
          rw [raise_n] at m4
          refine ⟨m1, m2, m4, fun hlow => ?_, fun ρ B w args' hR hG hA hfree => ?_⟩
          · obtain ⟨_, r2, _, r4, _⟩ := raise_spec hlow fr hk
            have key := merge_static r2 hN (fun c hc => ?_) h
            refine ⟨key.2, fun id hid hlt => ?_⟩
            · rw [m3] at hid
              simp only [List.mem_append, not_or] at hid
              by_cases hL : id ∈ N.L
              · rw [changed_spec hL hid.1, r4 id hid.2]
              · rw [key.1 id hL (by rw [raise_n]; exact hlt), r4 id hid.2]
            obtain ⟨i, hi, hci⟩ := List.getElem_of_mem hc
            obtain ⟨c1, c2⟩ := cmpsOf_spec (raise H fr) (refsL a ++ blocksRefs (raise H fr) N.L) 0 N.L 0
            have hi' : i < N.L.length := by rw [← c1]; exact hi
            have := c2 i _ (List.getElem?_eq_getElem hi')
            rw [List.getElem?_eq_getElem hi, hci] at this
            cases this
            exact List.getElem_mem hi'
          · obtain ⟨hR1, hp, hc⟩ := run ρ B w args' hR hG hA
            refine hc.mono ?_
            rintro e w' ⟨ρ', v', rfl, h1, h2, h3, h4⟩
            obtain ⟨_, _, _, _, _, fin⟩ := merge_ok hR1 hN h
            obtain ⟨ρ2, g1, g2⟩ := fin (by rw [raise_n]; exact hfree) h1 h2 h3 h4
            exact ⟨ρ2, v', rfl, g1, hp.trans g2 hfree⟩
  have both : ∀ (a : List Value) (fr : Frs), FrKeys fr → (∀ (ρ : Ren) (B : Nat) (w : World) (args' : List Value), Rel ρ B H w → VRL ρ args args' → VRL (ρ.frz H w fr) a args') →
      callK rec f H (some (a, fr)) (cfg.know f) = .did v nb eff H' wr → nb = none ∧ eff = true ∧ CallOK P G f args H v H' wr := by
    intro a fr hk hargs h
    cases hkn : cfg.know f with
    | none =>
      rw [hkn] at h
      simp only [callK, callS1] at h
      exact main a fr hk hargs (fun _ _ _ _ => trivial) h
    | some g =>
      rw [hkn] at h
      simp only [callK] at h
      cases hg : g a with
      | none =>
        rw [hg] at h
        simp only [callG, callS1] at h
        exact main a fr hk hargs (fun _ _ _ _ => trivial) h
      | some u =>
        rw [hg] at h
        simp only [callG] at h
        cases h
        exact ⟨rfl, rfl, known_call hk hargs (hknow f g a _ hkn hg)⟩
  unfold callS at h
  cases hraw : (cfg.raw f).1 with
  | true =>
    rw [hraw, cond_true] at h
    exact both args [] frKeys_nil (fun ρ B w args' hR hA => hA.mono (frz_sub ρ H w [])) h
  | false =>
    rw [hraw, cond_false] at h
    cases hs : sealL P H 20 args with
    | none =>
      rw [hs] at h
      cases hkn : cfg.know f with
      | none => rw [hkn] at h; cases h
      | some g => rw [hkn] at h; cases h
    | some r =>
      obtain ⟨a, fr⟩ := r
      rw [hs] at h
      exact both a fr (seal_keys P H 20 args a fr hs) (fun ρ B w args' hR hA => (seal_ok hR 20 args args' hA a fr hs).2) h

end
end Go.Den
