/-
  THE ENGINE, part L: writing.
-/
import Derived.Test.YtjihbfdbgamcdaaGreatDoorE2K
namespace Go.Den
noncomputable section

variable {P : Program}

/- WORLDS -/

theorem shape?_setCell (w : World) (a : Addr) (v : Value) (r : Nat) : (w.setCell a v).shape? r = w.shape? r := by
  unfold World.shape? World.setCell
  simp only [Array.getElem?_modify]
  by_cases h : a.block = r
  · subst h
    simp only [if_true]
    cases hq : w.heap[a.block]? with
    | none => rfl
    | some o => cases o <;> simp; split <;> simp
  · simp [h]

theorem shape?_setCells (b : Nat) : ∀ (vs : List Value) (o : Nat) (w : World) (r : Nat), (w.setCells b o vs).shape? r = w.shape? r
  | [], _, _, _ => rfl
  | v :: vs, o, w, r => by rw [World.setCells, shape?_setCells b vs, shape?_setCell]

theorem heap_setCells (b : Nat) : ∀ (vs : List Value) (o : Nat) (w : World), (w.setCells b o vs).heap.size = w.heap.size ∧ ∀ r, r ≠ b → (w.setCells b o vs).heap[r]? = w.heap[r]?
  | [], _, _ => ⟨rfl, fun _ _ => rfl⟩
  | v :: vs, o, w => by
    obtain ⟨h1, h2⟩ := heap_setCells b vs (o + 1) (w.setCell ⟨b, o, none⟩ v)
    refine ⟨by rw [World.setCells, h1]; simp, fun r hr => ?_⟩
    rw [World.setCells, h2 r hr]
    have : ¬ b = r := fun e => hr e.symm
    simp [World.setCell, Array.getElem?_modify, this]

theorem hiOf_setCells (b : Nat) : ∀ (vs : List Value) (o : Nat) (w : World) (k : Nat), hiOf (w.setCells b o vs) k = hiOf w k := by
  intro vs
  induction vs with
  | nil => intro o w k; rfl
  | cons v vs ih =>
    intro o w k
    rw [World.setCells, ih]
    unfold hiOf World.setCell
    by_cases h : b = k
    · subst h
      cases hq : w.heap[b]? with
      | none => simp [Array.getElem?_modify, hq]
      | some ob => cases ob <;> simp [Array.getElem?_modify, hq]
    · simp [Array.getElem?_modify, h]

theorem same_setCells (b : Nat) : ∀ (vs : List Value) (o : Nat) (w : World), (w.setCells b o vs).os = w.os ∧ (w.setCells b o vs).output = w.output := by
  intro vs
  induction vs with
  | nil => intro o w; exact ⟨rfl, rfl⟩
  | cons v vs ih => intro o w; rw [World.setCells]; exact ⟨(ih _ _).1, (ih _ _).2⟩

/-- One block is written, or has a newer version. -/
theorem Rel.write {ρ ρ' : Ren} {B : Nat} {H : AH} {w w' : World} {id : Nat} {b0 b1 : ABlk} (hR : Rel ρ B H w) (hsub : Sub ρ ρ')
    (hnew : ∀ id' ver l, ρ' id' ver = some l → ρ id' ver = some l ∨ (id' = id ∧ l.block < w'.heap.size ∧ (w.heap.size ≤ l.block ∨ ∃ ver0 l0, ρ id ver0 = some l0 ∧ l0.block = l.block) ∧ ∃ ver0 l0, ρ id ver0 = some l0))
    (hget : H.get id = some b0) (hid : okKey id = true) (hsz : w.heap.size ≤ w'.heap.size) (hkeep : ∀ b : Nat, b < w.heap.size → (∀ ver l, ρ id ver = some l → l.block ≠ b) → w'.heap[b]? = w.heap[b]?)
    (hb : ∀ ver l, ρ' id ver = some l → BRel ρ' w' b1 ver l) (hwf : ∀ c, b1 = .cells c → c.WF) (hcl : ∀ b i v, ρ'.cell b i = some v → ρ.cell b i = some v ∨ (∃ ver l, ρ' id ver = some l ∧ l.block = b ∧ w'.cell? ⟨b, i, none⟩ = some v ∧ ∀ ver l, ρ' id ver = some l → l.block = b → frzAt b1 l i))
    (hfz : ∀ ver l i v, ρ id ver = some l → ρ.cell l.block i = some v → frzAt b0 l i → w'.cell? ⟨l.block, i, none⟩ = some v) (hfs : ∀ l i, frzAt b0 l i → frzAt b1 l i)
    (hfl : ∀ ver0 l0 (_ : Unit), ρ id ver0 = some l0 → ∀ x v, ρ' id v = some x → x.block = l0.block → ∀ k, frzAt b1 l0 k → frzAt b1 x k)
    (hsame : w'.os = w.os ∧ w'.output = w.output := by exact ⟨rfl, rfl⟩) : Rel ρ' B (H.set id b1) w' ∧ Ext ρ H w ρ' (H.set id b1) w' := by
  have hg := fun i => AH.get_set (H := H) hid b1 i
  have hn : (H.set id b1).n = H.n := by rw [AH.set_eq]
  have hbase := hR.base
  have hcell : ∀ b i v, ρ.cell b i = some v → w'.cell? ⟨b, i, none⟩ = some v := by
    intro b i v hv
    by_cases himg : ∃ ver l, ρ id ver = some l ∧ l.block = b
    · obtain ⟨ver, l, h1, rfl⟩ := himg
      exact hfz ver l i v h1 hv (hR.fz.sep id ver l i v b0 h1 hv hget)
    · have h1 := hkeep b (hR.fz.lt hv) fun ver l h1 h2 => himg ⟨ver, l, h1, h2⟩
      have h2 := hR.fz.cell b i v hv
      unfold World.cell? at h2 ⊢
      simp only at h2 ⊢
      rw [h1]; exact h2
  refine ⟨⟨?_, ?_, ?_, ?_, ?_, by omega, ⟨?_, ?_⟩⟩, ⟨hsub, hsz, ?_, ?_, ?_, by omega, ?_, ?_, hsame, ?_⟩⟩
  · intro i ver l c hl hc
    rw [hg] at hc
    split at hc
    · rename_i e; subst e; cases hc; exact hb ver l hl
    · rename_i hne
      rcases hnew i ver l hl with h1 | ⟨h1, _⟩
      · refine (hR.blk i ver l c h1 hc).keep hsub (hkeep l.block (hR.bnd _ _ _ h1).2 fun ver' l' h2 e => hne ?_)
        exact hR.sep _ _ _ _ _ _ h1 h2 e.symm
      · exact absurd h1 hne
  · intro i c hc
    rw [hg] at hc
    split at hc
    · cases hc; exact hwf c rfl
    · exact hR.wf i c hc
  · intro i c hc
    rw [hg] at hc
    rw [hn]
    split at hc
    · rename_i e; subst e; exact hR.low _ _ hget
    · exact hR.low _ _ hc
  · intro i v x i' v' x' h1 h2 e
    rcases hnew i v x h1 with g1 | ⟨rfl, g1, g1', _⟩ <;> rcases hnew i' v' x' h2 with g2 | ⟨rfl, g2, g2', _⟩
    · exact hR.sep _ _ _ _ _ _ g1 g2 e
    · rcases g2' with g3 | ⟨ver0, l0, g3, g4⟩
      · have := (hR.bnd _ _ _ g1).2; omega
      · exact hR.sep _ _ _ _ _ _ g1 g3 (e.trans g4.symm)
    · rcases g1' with g3 | ⟨ver0, l0, g3, g4⟩
      · have := (hR.bnd _ _ _ g2).2; omega
      · exact hR.sep _ _ _ _ _ _ g3 g2 (g4.trans e)
    · rfl
  · intro i v x h1
    rcases hnew i v x h1 with g1 | ⟨rfl, g1, g1', _⟩
    · have := hR.bnd _ _ _ g1; omega
    · rcases g1' with g3 | ⟨ver0, l0, g3, g4⟩
      · omega
      · have := hR.bnd _ _ _ g3; omega
  · intro b i v hv
    rcases hcl b i v hv with h1 | ⟨_, _, _, _, h1, _⟩
    · exact hcell b i v h1
    · exact h1
  · intro i v x k u c h1 hu hc
    rcases hcl _ _ _ hu with hu | ⟨ver0, l0, h2, h3, _, h4⟩
    rotate_left
    · have hid' : i = id := by
        have g : ∀ i1 v1 x1, ρ' i1 v1 = some x1 → x1.block = x.block → i1 = id → i = id := by
          intro i1 v1 x1 e1 e2 e3
          subst e3
          rcases hnew i v x h1 with g1 | ⟨g1, _⟩
          · rcases hnew i1 v1 x1 e1 with q1 | ⟨_, _, q2, _⟩
            · exact hR.sep _ _ _ _ _ _ g1 q1 e2.symm
            · rcases q2 with q3 | ⟨ver1, l1, q3, q4⟩
              · have := (hR.bnd _ _ _ g1).2; omega
              · exact hR.sep _ _ _ _ _ _ g1 q3 (by omega)
          · exact g1
        exact g id ver0 l0 h2 h3 rfl
      subst hid'
      rw [hg, if_pos rfl] at hc
      cases hc
      exact h4 v x h1 rfl
    rw [hg] at hc
    have fin : ∀ ver0 l0, ρ i ver0 = some l0 → l0.block = x.block → l0.esz = x.esz ∨ b0 = b0 → frzAt c x k := by
      intro ver0 l0 h2 h3 _
      have hu0 := hu
      rw [← h3] at hu
      split at hc
      · rename_i e
        subst e
        cases hc
        exact hfl _ _ () h2 x v h1 h3.symm k (hfs _ _ (hR.fz.sep _ _ _ _ _ _ h2 hu hget))
      · rename_i e
        have : ρ i v = some x := by
          rcases hnew i v x h1 with g1 | ⟨rfl, _⟩
          · exact g1
          · exact absurd rfl e
        exact hR.fz.sep _ _ _ _ _ _ this hu0 hc
    rcases hnew i v x h1 with g1 | ⟨rfl, g1, g1', _⟩
    · exact fin v x g1 rfl (.inr rfl)
    · rcases g1' with g3 | ⟨ver0, l0, g3, g4⟩
      · have := hR.fz.lt hu; omega
      · exact fin ver0 l0 g3 g4 (.inr rfl)
  · intro b hb' himg
    exact hkeep b hb' fun ver l h1 => himg id ver l (by rw [hget]; rfl) h1
  · intro i v x h1 h0
    rcases hnew i v x h1 with g1 | ⟨rfl, g1, g1', _⟩
    · rw [h0] at g1; cases g1
    · rcases g1' with g3 | ⟨ver0, l0, g3, g4⟩
      · exact .inl g3
      · exact .inr ⟨ver0, l0, by rw [hget]; rfl, g3, g4⟩
  · intro i v x h1 h0
    rcases hnew i v x h1 with g1 | ⟨rfl, _, _, g4⟩
    · rw [h0] at g1; cases g1
    · exact .inr ⟨by rw [hget]; rfl, g4⟩
  · intro i hi; rw [hg]; split <;> simp_all
  · intro i hi
    rw [hg] at hi
    split at hi
    · rename_i e; subst e; exact .inl (by rw [hget]; rfl)
    · exact .inl hi
  · intro b i v hv
    rcases hcl b i v hv with h1 | ⟨ver, l, h1, h2, _⟩
    · exact .inl h1
    · rcases hnew id ver l h1 with g1 | ⟨_, _, g1, _⟩
      · exact .inr (.inr ⟨id, ver, l, by rw [hget]; rfl, g1, h2⟩)
      · rcases g1 with g3 | ⟨ver0, l0, g3, g4⟩
        · exact .inr (.inl (by omega))
        · exact .inr (.inr ⟨id, ver0, l0, by rw [hget]; rfl, g3, g4.trans h2⟩)

theorem wrBlk_some {H : AH} {a : Addr} {n : Nat} {b : CBlk} (h : wrBlk H a n = some b) : rdBlk H a n = some b ∧ aver a = b.top ∧ b.frz ≤ a.off ∧ okKey a.block = true := by
  unfold wrBlk at h
  split at h
  · rename_i c hc
    cases hq : (Nat.beq (aver a) c.top && (Nat.ble c.frz a.off && okKey a.block)) with
    | false => rw [hq, cond_false] at h; cases h
    | true =>
      rw [hq, cond_true] at h
      cases h
      simp only [Bool.and_eq_true, Nat.beq_eq, Nat.ble_eq] at hq
      exact ⟨hc, hq.1, hq.2.1, hq.2.2⟩
  · cases h

theorem overwrite_get_out (vs : List Value) : ∀ (l : List Value) (o i : Nat), (i < o ∨ o + vs.length ≤ i) → (overwrite l o vs)[i]? = l[i]? := by
  induction vs with
  | nil => intro l o i _; rfl
  | cons v vs ih =>
    intro l o i h
    simp only [overwrite, List.length_cons] at h ⊢
    rw [ih _ _ _ (by omega), List.getElem?_set]
    split
    · omega
    · rfl

theorem overwrite_get_in (vs : List Value) : ∀ (l : List Value) (o j : Nat), o + vs.length ≤ l.length → (hj : j < vs.length) → (overwrite l o vs)[o + j]? = some vs[j] := by
  induction vs with
  | nil => intro l o j _ hj; simp at hj
  | cons v vs ih =>
    intro l o j h hj
    simp only [overwrite, List.length_cons] at h ⊢
    cases j with
    | zero =>
      rw [overwrite_get_out _ _ _ _ (by omega), List.getElem?_set]
      simp
      omega
    | succ j =>
      have := ih (l.set o v) (o + 1) j (by simp; omega) (by simpa using hj)
      rw [show o + (j + 1) = o + 1 + j by omega, this]
      simp

theorem oneCell_rel {ρ : Ren} {v v' : Value} (h : VR ρ v v') (h1 : oneCell v = true) : v'.oneCell' = true := by
  cases h <;> first | rfl | (simp [oneCell, isJK] at h1; done) | skip
  rename_i hf
  cases v <;> first | rfl | simp [oneCell] at h1

theorem oneCells_rel {ρ : Ren} {vs vs' : List Value} (h : VRL ρ vs vs') (h1 : vs.all oneCell = true) : ∀ v ∈ vs', v.oneCell' = true := by
  intro v hv
  obtain ⟨i, hi, rfl⟩ := List.getElem_of_mem hv
  have hi' : i < vs.length := h.1 ▸ hi
  exact oneCell_rel (h.2 i vs[i] _ (List.getElem?_eq_getElem hi') (List.getElem?_eq_getElem hi)) (list_all h1 _ (List.getElem_mem hi'))

theorem lenAt_top {b : CBlk} {cs : List Value} {wv : Nat} {pf : Bool} (hcs : cs.length = b.cells.length) (ver : Nat) : ({ b with cells := cs, wver := wv, pf := pf } : CBlk).lenAt ver = b.lenAt ver := by
  unfold CBlk.lenAt CBlk.top
  cases hl : b.lens <;> simp [hcs]

theorem overwrite_noRefs : ∀ (vs l : List Value) (o : Nat), noRefsL l = true → noRefsL vs = true → noRefsL (overwrite l o vs) = true := by
  intro vs
  induction vs with
  | nil => intro l o h _; exact h
  | cons v vs ih =>
    intro l o h hv
    simp only [noRefsL, Bool.and_eq_true] at hv
    refine ih _ _ ?_ hv.2
    rw [noRefsL_iff] at h ⊢
    intro x hx
    rcases List.mem_or_eq_of_mem_set hx with h1 | h1
    · exact h x h1
    · rw [h1]; exact hv.1

/-- Cells in a row, written. -/
theorem store_row {ρ : Ren} {B : Nat} {H H' : AH} {w : World} (hR : Rel ρ B H w) {a : Addr} {vs vs' : List Value} {l : Loc} (h : storeCellsA H a vs = some H') (hl : ρ a.block (aver a) = some l) (hv : VRL ρ vs vs') :
    (storeCells ⟨l.block, a.off, none⟩ vs').run P w = .ok () (w.setCells l.block a.off vs') ∧ Rel ρ B H' (w.setCells l.block a.off vs') ∧ Ext ρ H w ρ H' (w.setCells l.block a.off vs') := by
  unfold storeCellsA at h
  split at h
  · rename_i b hb
    cases hq : vs.all oneCell with
    | false => rw [hq, cond_false] at h; cases h
    | true =>
      rw [hq, cond_true] at h
      cases h
      obtain ⟨h1, h2, h3, h4⟩ := wrBlk_some hb
      obtain ⟨g1, g2, g3, g4⟩ := rdBlk_some h1
      have hC := rd_rel hR h1 hl
      obtain ⟨n, s1, s2, s3, s4⟩ := hC.shape
      have hwf := hR.wf _ _ g1
      have hlen := rd_len hR h1
      have hn : a.off + vs.length ≤ n := by
        by_cases hz : b.lens = []
        · have := s2 hz; omega
        · have := (s3 hz).2; omega
      have hcells : ∀ j, j < vs'.length → (w.cell? ⟨l.block, a.off + j, none⟩).isSome = true := by
        intro j hj
        obtain ⟨v, v', _, q, _⟩ := rd_cell hR h1 hl j (by rw [hv.1]; exact hj)
        rw [q]; rfl
      have hfz : ∀ j, j < vs'.length → w.frozen? ⟨l.block, a.off + j, none⟩ = false := fun j hj => s4 _ (by omega) (by have := hv.1; omega)
      refine ⟨?_, ?_⟩
      · have := run_storeCells_cells (P := P) l.block a.off vs' 0 w (by simpa using hcells) (by simpa using hfz) (oneCells_rel hv hq)
        simpa using this
      · obtain ⟨hs1, hs2⟩ := heap_setCells l.block vs' a.off w
        refine Rel.write hR (.refl ρ) (fun _ _ _ hx => .inl hx) g1 h4 (by omega) (fun c hc himg => hs2 c fun e => himg _ _ hl e.symm) ?_ ?_ (fun _ _ _ h => .inl h) ?_ (fun _ _ h => h) (fun _ _ _ _ _ _ _ _ _ h => h) (same_setCells _ _ _ _)
        · intro ver l' hl'
          have hver := (hR.blk _ _ _ _ hl' g1).1
          refine ⟨hver, fun hw => ?_⟩
          have hve : ver = b.top := Nat.le_antisymm hver hw
          subst hve
          have hll : l' = l := by rw [← h2, hl] at hl'; exact (Option.some.inj hl').symm
          subst hll
          refine ⟨⟨n, by rw [shape?_setCells]; exact s1, fun hz => by simpa [overwrite_length] using s2 hz, fun hz => ?_, fun i hi hi' => by rw [World.frozen?_setCells]; exact s4 i hi hi'⟩, ?_, hC.esz, fun hm => by rw [hiOf_setCells]; exact hC.hi hm⟩
          · rw [lenAt_top (overwrite_length _ _ _), ← h2]; exact s3 hz
          · intro i v hi hiv
            rw [lenAt_top (overwrite_length _ _ _), ← h2] at hi
            by_cases hin : a.off ≤ i ∧ i < a.off + vs.length
            · obtain ⟨j, rfl⟩ : ∃ j, i = a.off + j := ⟨i - a.off, by omega⟩
              have hj : j < vs.length := by omega
              have hj' : j < vs'.length := by rw [← hv.1]; exact hj
              simp only at hiv
              rw [overwrite_get_in vs b.cells a.off j hlen hj] at hiv
              cases hiv
              exact ⟨vs'[j], World.cell?_setCells_in l'.block vs' a.off w hcells j hj', hv.2 j _ _ (List.getElem?_eq_getElem hj) (List.getElem?_eq_getElem hj')⟩
            · simp only at hiv
              rw [overwrite_get_out _ _ _ _ (by omega)] at hiv
              obtain ⟨v', q1, q2⟩ := hC.vals i v hi hiv
              refine ⟨v', ?_, q2⟩
              rw [World.cell?_setCells_out l'.block vs' a.off w _ (fun _ _ => by have := hv.1; simp only; omega)]
              exact q1
        · intro c hc
          cases hc
          refine ⟨fun m hm => by simpa [overwrite_length] using hwf.lens m hm, Nat.le_refl _, fun hp => ?_⟩
          simp only [Bool.and_eq_true] at hp
          exact overwrite_noRefs _ _ _ (hwf.pf hp.1) hp.2
        · intro ver l' i v hl' hv' hi
          have hi : i < b.frz := hi
          rw [World.cell?_setCells_out l.block vs' a.off w _ (fun _ _ => by simp only; omega)]
          exact hR.fz.cell _ _ _ hv'
  · cases h

theorem store_sound {ρ : Ren} {B : Nat} {H : AH} {w : World} (hR : Rel ρ B H w) {e : Env} {a : Act} {fresh : Nat} {o : Oper} {t : TypeId} {x y : Operand} (ho : o.op = .store t x y) {i : TypeInfo} (hi : tyInfo P t = some i)
    (hE : ERel ρ e a) (hops : ∀ x ∈ o.op.operands.toList, okOpd x = true) : ResOK P ρ B H w (execOp a.eval o) fresh (storeA H i.size (evl e x) (evl e y)) := by
  have hx : okOpd x = true := hops x (by rw [ho]; simp [Op.operands])
  have hy : okOpd y = true := hops y (by rw [ho]; simp [Op.operands])
  have hvx := evl_rel hE x hx
  have hvy := evl_rel hE y hy
  unfold storeA
  split
  · rename_i p h0
    rw [h0] at hvx
    obtain ⟨l, g1, g2⟩ := hvx.ptr_inv
    cases hq : (Nat.beq (evl e y).cells.size i.size && !isJK (evl e y)) with
    | false => rw [cond_false]; trivial
    | true =>
      rw [cond_true]
      simp only [Bool.and_eq_true, Bool.not_eq_true'] at hq
      obtain ⟨hq, hj⟩ := hq
      cases hs : storeCellsA H p (evl e y).cells.toList with
      | none => trivial
      | some H' =>
        intro _
        obtain ⟨r1, r2, r3⟩ := store_row (P := P) hR hs g1 (hvy.cells hj)
        refine ⟨.skip, undef, _, ρ, ?_, rfl, .flat flat_undef, r2, r3⟩
        have hsz : ¬ (a.eval y).cells.size ≠ i.size := by
          have h1 := Nat.eq_of_beq_eq_true hq
          have h2 := hvy.cells_size hj
          omega
        simp only [execOp, ho, g2]
        simp only [Instr.storeAt, Instr.sureAddr, storeVar, Sem.run_bind, Sem.run_pure, Result.andThen_ok, run_size hi, hsz, if_false, r1]
  · trivial

end
end Go.Den
