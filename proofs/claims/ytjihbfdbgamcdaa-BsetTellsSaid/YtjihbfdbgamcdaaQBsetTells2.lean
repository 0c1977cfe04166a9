/-
  PARTS OF A PROOF, joined by a program (2 of 7): a proved reckoner of the model, and what the functions come to.
-/
import Derived.Test.YtjihbfdbgamcdaaQBsetTells1
import GoSem.Extern.Table
import Derived.Lib.MakeNoZero
import Derived.LoopN
set_option linter.unusedVariables false
set_option linter.unusedSimpArgs false
namespace Go.Den
noncomputable section
variable {P : Program}
theorem wsu (w : World) (a : Addr) (v : Value) (r : Nat) : (w.setCell a v).shape? r = w.shape? r := by
 unfold World.shape? World.setCell
 simp only [Array.getElem?_modify]
 by_cases h : a.block = r
 ·subst h
  simp only [if_true]
  cases hq : w.heap[a.block]? with
  | none => rfl
  | some o => cases o <;> simp; split <;> simp
 ·simp [h]
theorem wjg (b : Nat) : ∀ (vs : List Value) (o : Nat) (w : World) (r : Nat), (w.setCells b o vs).shape? r = w.shape? r
 | [], _, _, _ => rfl
 | v :: vs, o, w, r => by rw [World.setCells, wjg b vs, wsu]
theorem wsh (b : Nat) : ∀ (vs : List Value) (o : Nat) (w : World), (w.setCells b o vs).heap.size = w.heap.size ∧ ∀ r, r ≠ b → (w.setCells b o vs).heap[r]? = w.heap[r]?
 | [], _, _ => ⟨rfl, fun _ _ => rfl⟩
 | v :: vs, o, w => by
  obtain ⟨h1, h2⟩ := wsh b vs (o + 1) (w.setCell ⟨b, o, none⟩ v)
  refine ⟨by rw [World.setCells, h1]; simp, fun r hr => ?_⟩
  rw [World.setCells, h2 r hr]
  have : ¬ b = r := fun e => hr e.symm
  simp [World.setCell, Array.getElem?_modify, this]
theorem wth (b : Nat) : ∀ (vs : List Value) (o : Nat) (w : World) (k : Nat), hiOf (w.setCells b o vs) k = hiOf w k := by
 intro vs
 induction vs with
 | nil => intro o w k; rfl
 | cons v vs ih =>
  intro o w k
  rw [World.setCells, ih]
  unfold hiOf World.setCell
  by_cases h : b = k
  ·subst h
   cases hq : w.heap[b]? with
   | none => simp [Array.getElem?_modify, hq]
   | some ob => cases ob <;> simp [Array.getElem?_modify, hq]
  ·simp [Array.getElem?_modify, h]
theorem wkk (b : Nat) : ∀ (vs : List Value) (o : Nat) (w : World), (w.setCells b o vs).os = w.os ∧ (w.setCells b o vs).output = w.output := by
 intro vs
 induction vs with
 | nil => intro o w; exact ⟨rfl, rfl⟩
 | cons v vs ih => intro o w; rw [World.setCells]; exact ⟨(ih _ _).1, (ih _ _).2⟩
theorem Rel.write {ρ ρ' : Ren} {B : Nat} {H : AH} {w w' : World} {id : Nat} {b0 b1 : ABlk} (hR : Rel ρ B H w) (hsub : Sub ρ ρ')
  (hnew : ∀ id' ver l, ρ' id' ver = some l → ρ id' ver = some l ∨ (id' = id ∧ l.block < w'.heap.size ∧ (w.heap.size ≤ l.block ∨ ∃ ver0 l0, ρ id ver0 = some l0 ∧ l0.block = l.block) ∧ ∃ ver0 l0, ρ id ver0 = some l0))
  (hget : H.get id = some b0) (hid : wmb id = true) (hsz : w.heap.size ≤ w'.heap.size) (hkeep : ∀ b : Nat, b < w.heap.size → (∀ ver l, ρ id ver = some l → l.block ≠ b) → w'.heap[b]? = w.heap[b]?)
  (hb : ∀ ver l, ρ' id ver = some l → BRel ρ' w' b1 ver l) (hwf : ∀ c, b1 = .cells c → c.WF) (hcl : ∀ b i v, ρ'.cell b i = some v → ρ.cell b i = some v ∨ (∃ ver l, ρ' id ver = some l ∧ l.block = b ∧ w'.cell? ⟨b, i, none⟩ = some v ∧ ∀ ver l, ρ' id ver = some l → l.block = b → wnu b1 l i))
  (hfz : ∀ ver l i v, ρ id ver = some l → ρ.cell l.block i = some v → wnu b0 l i → w'.cell? ⟨l.block, i, none⟩ = some v) (hfs : ∀ l i, wnu b0 l i → wnu b1 l i)
  (hfl : ∀ ver0 l0 (_ : Unit), ρ id ver0 = some l0 → ∀ x v, ρ' id v = some x → x.block = l0.block → ∀ k, wnu b1 l0 k → wnu b1 x k)
  (hsame : w'.os = w.os ∧ w'.output = w.output := by exact ⟨rfl, rfl⟩) : Rel ρ' B (H.set id b1) w' ∧ Ext ρ H w ρ' (H.set id b1) w' := by
 have hg := fun i => AH.get_set (H := H) hid b1 i
 have hn : (H.set id b1).n = H.n := by rw [AH.set_eq]
 have hbase := hR.base
 have hcell : ∀ b i v, ρ.cell b i = some v → w'.cell? ⟨b, i, none⟩ = some v := by
  intro b i v hv
  by_cases himg : ∃ ver l, ρ id ver = some l ∧ l.block = b
  ·obtain ⟨ver, l, h1, rfl⟩ := himg
   exact hfz ver l i v h1 hv (hR.fz.sep id ver l i v b0 h1 hv hget)
  ·have h1 := hkeep b (hR.fz.lt hv) fun ver l h1 h2 => himg ⟨ver, l, h1, h2⟩
   have h2 := hR.fz.cell b i v hv
   unfold World.cell? at h2 ⊢
   simp only at h2 ⊢
   rw [h1]; exact h2
 refine ⟨⟨?_, ?_, ?_, ?_, ?_, by omega, ⟨?_, ?_⟩⟩, ⟨hsub, hsz, ?_, ?_, ?_, by omega, ?_, ?_, hsame, ?_⟩⟩
 ·intro i ver l c hl hc
  rw [hg] at hc
  split at hc
  ·rename_i e; subst e; cases hc; exact hb ver l hl
  ·rename_i hne
   rcases hnew i ver l hl with h1 | ⟨h1, _⟩
   ·refine (hR.blk i ver l c h1 hc).keep hsub (hkeep l.block (hR.bnd _ _ _ h1).2 fun ver' l' h2 e => hne ?_)
    exact hR.sep _ _ _ _ _ _ h1 h2 e.symm
   ·exact absurd h1 hne
 ·intro i c hc
  rw [hg] at hc
  split at hc
  ·cases hc; exact hwf c rfl
  ·exact hR.wf i c hc
 ·intro i c hc
  rw [hg] at hc
  rw [hn]
  split at hc
  ·rename_i e; subst e; exact hR.low _ _ hget
  ·exact hR.low _ _ hc
 ·intro i v x i' v' x' h1 h2 e
  rcases hnew i v x h1 with g1 | ⟨rfl, g1, g1', _⟩ <;> rcases hnew i' v' x' h2 with g2 | ⟨rfl, g2, g2', _⟩
  ·exact hR.sep _ _ _ _ _ _ g1 g2 e
  ·rcases g2' with g3 | ⟨ver0, l0, g3, g4⟩
   ·have := (hR.bnd _ _ _ g1).2; omega
   ·exact hR.sep _ _ _ _ _ _ g1 g3 (e.trans g4.symm)
  ·rcases g1' with g3 | ⟨ver0, l0, g3, g4⟩
   ·have := (hR.bnd _ _ _ g2).2; omega
   ·exact hR.sep _ _ _ _ _ _ g3 g2 (g4.trans e)
  ·rfl
 ·intro i v x h1
  rcases hnew i v x h1 with g1 | ⟨rfl, g1, g1', _⟩
  ·have := hR.bnd _ _ _ g1; omega
  ·rcases g1' with g3 | ⟨ver0, l0, g3, g4⟩
   ·omega
   ·have := hR.bnd _ _ _ g3; omega
 ·intro b i v hv
  rcases hcl b i v hv with h1 | ⟨_, _, _, _, h1, _⟩
  ·exact hcell b i v h1
  ·exact h1
 ·intro i v x k u c h1 hu hc
  rcases hcl _ _ _ hu with hu | ⟨ver0, l0, h2, h3, _, h4⟩
  rotate_left
  ·have hid' : i = id := by
    have g : ∀ i1 v1 x1, ρ' i1 v1 = some x1 → x1.block = x.block → i1 = id → i = id := by
     intro i1 v1 x1 e1 e2 e3
     subst e3
     rcases hnew i v x h1 with g1 | ⟨g1, _⟩
     ·rcases hnew i1 v1 x1 e1 with q1 | ⟨_, _, q2, _⟩
      ·exact hR.sep _ _ _ _ _ _ g1 q1 e2.symm
      ·rcases q2 with q3 | ⟨ver1, l1, q3, q4⟩
       ·have := (hR.bnd _ _ _ g1).2; omega
       ·exact hR.sep _ _ _ _ _ _ g1 q3 (by omega)
     ·exact g1
    exact g id ver0 l0 h2 h3 rfl
   subst hid'
   rw [hg, if_pos rfl] at hc
   cases hc
   exact h4 v x h1 rfl
  rw [hg] at hc
  have fin : ∀ ver0 l0, ρ i ver0 = some l0 → l0.block = x.block → l0.esz = x.esz ∨ b0 = b0 → wnu c x k := by
   intro ver0 l0 h2 h3 _
   have hu0 := hu
   rw [← h3] at hu
   split at hc
   ·rename_i e
    subst e
    cases hc
    exact hfl _ _ () h2 x v h1 h3.symm k (hfs _ _ (hR.fz.sep _ _ _ _ _ _ h2 hu hget))
   ·rename_i e
    have : ρ i v = some x := by
     rcases hnew i v x h1 with g1 | ⟨rfl, _⟩
     ·exact g1
     ·exact absurd rfl e
    exact hR.fz.sep _ _ _ _ _ _ this hu0 hc
  rcases hnew i v x h1 with g1 | ⟨rfl, g1, g1', _⟩
  ·exact fin v x g1 rfl (.inr rfl)
  ·rcases g1' with g3 | ⟨ver0, l0, g3, g4⟩
   ·have := hR.fz.lt hu; omega
   ·exact fin ver0 l0 g3 g4 (.inr rfl)
 ·intro b hb' himg
  exact hkeep b hb' fun ver l h1 => himg id ver l (by rw [hget]; rfl) h1
 ·intro i v x h1 h0
  rcases hnew i v x h1 with g1 | ⟨rfl, g1, g1', _⟩
  ·rw [h0] at g1; cases g1
  ·rcases g1' with g3 | ⟨ver0, l0, g3, g4⟩
   ·exact .inl g3
   ·exact .inr ⟨ver0, l0, by rw [hget]; rfl, g3, g4⟩
 ·intro i v x h1 h0
  rcases hnew i v x h1 with g1 | ⟨rfl, _, _, g4⟩
  ·rw [h0] at g1; cases g1
  ·exact .inr ⟨by rw [hget]; rfl, g4⟩
 ·intro i hi; rw [hg]; split <;> simp_all
 ·intro i hi
  rw [hg] at hi
  split at hi
  ·rename_i e; subst e; exact .inl (by rw [hget]; rfl)
  ·exact .inl hi
 ·intro b i v hv
  rcases hcl b i v hv with h1 | ⟨ver, l, h1, h2, _⟩
  ·exact .inl h1
  ·rcases hnew id ver l h1 with g1 | ⟨_, _, g1, _⟩
   ·exact .inr (.inr ⟨id, ver, l, by rw [hget]; rfl, g1, h2⟩)
   ·rcases g1 with g3 | ⟨ver0, l0, g3, g4⟩
    ·exact .inr (.inl (by omega))
    ·exact .inr (.inr ⟨id, ver0, l0, by rw [hget]; rfl, g3, g4.trans h2⟩)
theorem wbq {H : AH} {a : Addr} {n : Nat} {b : CBlk} (h : wapb H a n = some b) : wtf H a n = some b ∧ aver a = b.top ∧ b.frz ≤ a.off ∧ wmb a.block = true := by
 unfold wapb at h
 split at h
 ·rename_i c hc
  cases hq : (Nat.beq (aver a) c.top && (Nat.ble c.frz a.off && wmb a.block)) with
  | false => rw [hq, cond_false] at h; cases h
  | true =>
   rw [hq, cond_true] at h
   cases h
   simp only [Bool.and_eq_true, Nat.beq_eq, Nat.ble_eq] at hq
   exact ⟨hc, hq.1, hq.2.1, hq.2.2⟩
 ·cases h
theorem wxj (vs : List Value) : ∀ (l : List Value) (o i : Nat), (i < o ∨ o + vs.length ≤ i) → (wm l o vs)[i]? = l[i]? := by
 induction vs with
 | nil => intro l o i _; rfl
 | cons v vs ih =>
  intro l o i h
  simp only [wm, List.length_cons] at h ⊢
  rw [ih _ _ _ (by omega), List.getElem?_set]
  split
  ·omega
  ·rfl
theorem wkr (vs : List Value) : ∀ (l : List Value) (o j : Nat), o + vs.length ≤ l.length → (hj : j < vs.length) → (wm l o vs)[o + j]? = some vs[j] := by
 induction vs with
 | nil => intro l o j _ hj; simp at hj
 | cons v vs ih =>
  intro l o j h hj
  simp only [wm, List.length_cons] at h ⊢
  cases j with
  | zero =>
   rw [wxj _ _ _ _ (by omega), List.getElem?_set]
   simp
   omega
  | succ j =>
   have := ih (l.set o v) (o + 1) j (by simp; omega) (by simpa using hj)
   rw [show o + (j + 1) = o + 1 + j by omega, this]
   simp
theorem wxdb {ρ : Ren} {v v' : Value} (h : VR ρ v v') (h1 : oneCell v = true) : v'.oneCell' = true := by
 cases h <;> first | rfl | (simp [oneCell, isJK] at h1; done) | skip
 rename_i hf
 cases v <;> first | rfl | simp [oneCell] at h1
theorem wvl {ρ : Ren} {vs vs' : List Value} (h : VRL ρ vs vs') (h1 : vs.all oneCell = true) : ∀ v ∈ vs', v.oneCell' = true := by
 intro v hv
 obtain ⟨i, hi, rfl⟩ := List.getElem_of_mem hv
 have hi' : i < vs.length := h.1 ▸ hi
 exact wxdb (h.2 i vs[i] _ (List.getElem?_eq_getElem hi') (List.getElem?_eq_getElem hi)) (wcf h1 _ (List.getElem_mem hi'))
theorem wwl {b : CBlk} {cs : List Value} {wv : Nat} {pf : Bool} (hcs : cs.length = b.cells.length) (ver : Nat) : ({ b with cells := cs, wver := wv, pf := pf } : CBlk).lenAt ver = b.lenAt ver := by
 unfold CBlk.lenAt CBlk.top
 cases hl : b.lens <;> simp [hcs]
theorem wlr : ∀ (vs l : List Value) (o : Nat), wcb l = true → wcb vs = true → wcb (wm l o vs) = true := by
 intro vs
 induction vs with
 | nil => intro l o h _; exact h
 | cons v vs ih =>
  intro l o h hv
  simp only [wcb, Bool.and_eq_true] at hv
  refine ih _ _ ?_ hv.2
  rw [wpd] at h ⊢
  intro x hx
  rcases List.mem_or_eq_of_mem_set hx with h1 | h1
  ·exact h x h1
  ·rw [h1]; exact hv.1
theorem wys {ρ : Ren} {B : Nat} {H H' : AH} {w : World} (hR : Rel ρ B H w) {a : Addr} {vs vs' : List Value} {l : Loc} (h : wkc H a vs = some H') (hl : ρ a.block (aver a) = some l) (hv : VRL ρ vs vs') :
  (storeCells ⟨l.block, a.off, none⟩ vs').run P w = .ok () (w.setCells l.block a.off vs') ∧ Rel ρ B H' (w.setCells l.block a.off vs') ∧ Ext ρ H w ρ H' (w.setCells l.block a.off vs') := by
 unfold wkc at h
 split at h
 ·rename_i b hb
  cases hq : vs.all oneCell with
  | false => rw [hq, cond_false] at h; cases h
  | true =>
   rw [hq, cond_true] at h
   cases h
   obtain ⟨h1, h2, h3, h4⟩ := wbq hb
   obtain ⟨g1, g2, g3, g4⟩ := wbe h1
   have hC := wqs hR h1 hl
   obtain ⟨n, s1, s2, s3, s4⟩ := hC.shape
   have hwf := hR.wf _ _ g1
   have hlen := wrs hR h1
   have hn : a.off + vs.length ≤ n := by
    by_cases hz : b.lens = []
    ·have := s2 hz; omega
    ·have := (s3 hz).2; omega
   have hcells : ∀ j, j < vs'.length → (w.cell? ⟨l.block, a.off + j, none⟩).isSome = true := by
    intro j hj
    obtain ⟨v, v', _, q, _⟩ := wzp hR h1 hl j (by rw [hv.1]; exact hj)
    rw [q]; rfl
   have hfz : ∀ j, j < vs'.length → w.frozen? ⟨l.block, a.off + j, none⟩ = false := fun j hj => s4 _ (by omega) (by have := hv.1; omega)
   refine ⟨?_, ?_⟩
   ·have := run_storeCells_cells (P := P) l.block a.off vs' 0 w (by simpa using hcells) (by simpa using hfz) (wvl hv hq)
    simpa using this
   ·obtain ⟨hs1, hs2⟩ := wsh l.block vs' a.off w
    refine Rel.write hR (.refl ρ) (fun _ _ _ hx => .inl hx) g1 h4 (by omega) (fun c hc himg => hs2 c fun e => himg _ _ hl e.symm) ?_ ?_ (fun _ _ _ h => .inl h) ?_ (fun _ _ h => h) (fun _ _ _ _ _ _ _ _ _ h => h) (wkk _ _ _ _)
    ·intro ver l' hl'
     have hver := (hR.blk _ _ _ _ hl' g1).1
     refine ⟨hver, fun hw => ?_⟩
     have hve : ver = b.top := Nat.le_antisymm hver hw
     subst hve
     have hll : l' = l := by rw [← h2, hl] at hl'; exact (Option.some.inj hl').symm
     subst hll
     refine ⟨⟨n, by rw [wjg]; exact s1, fun hz => by simpa [wyf] using s2 hz, fun hz => ?_, fun i hi hi' => by rw [World.frozen?_setCells]; exact s4 i hi hi'⟩, ?_, hC.esz, fun hm => by rw [wth]; exact hC.hi hm⟩
     ·rw [wwl (wyf _ _ _), ← h2]; exact s3 hz
     ·intro i v hi hiv
      rw [wwl (wyf _ _ _), ← h2] at hi
      by_cases hin : a.off ≤ i ∧ i < a.off + vs.length
      ·obtain ⟨j, rfl⟩ : ∃ j, i = a.off + j := ⟨i - a.off, by omega⟩
       have hj : j < vs.length := by omega
       have hj' : j < vs'.length := by rw [← hv.1]; exact hj
       simp only at hiv
       rw [wkr vs b.cells a.off j hlen hj] at hiv
       cases hiv
       exact ⟨vs'[j], World.cell?_setCells_in l'.block vs' a.off w hcells j hj', hv.2 j _ _ (List.getElem?_eq_getElem hj) (List.getElem?_eq_getElem hj')⟩
      ·simp only at hiv
       rw [wxj _ _ _ _ (by omega)] at hiv
       obtain ⟨v', q1, q2⟩ := hC.vals i v hi hiv
       refine ⟨v', ?_, q2⟩
       rw [World.cell?_setCells_out l'.block vs' a.off w _ (fun _ _ => by have := hv.1; simp only; omega)]
       exact q1
    ·intro c hc
     cases hc
     refine ⟨fun m hm => by simpa [wyf] using hwf.lens m hm, Nat.le_refl _, fun hp => ?_⟩
     simp only [Bool.and_eq_true] at hp
     exact wlr _ _ _ (hwf.pf hp.1) hp.2
    ·intro ver l' i v hl' hv' hi
     have hi : i < b.frz := hi
     rw [World.cell?_setCells_out l.block vs' a.off w _ (fun _ _ => by simp only; omega)]
     exact hR.fz.cell _ _ _ hv'
 ·cases h
theorem wydb {ρ : Ren} {B : Nat} {H : AH} {w : World} (hR : Rel ρ B H w) {e : Env} {a : Act} {fresh : Nat} {o : Oper} {t : TypeId} {x y : Operand} (ho : o.op = .store t x y) {i : TypeInfo} (hi : wec P t = some i)
  (hE : ERel ρ e a) (hops : ∀ x ∈ o.op.operands.toList, wic x = true) : ResOK P ρ B H w (execOp a.eval o) fresh (wsq H i.size (evl e x) (evl e y)) := by
 have hx : wic x = true := hops x (by rw [ho]; simp [Op.operands])
 have hy : wic y = true := hops y (by rw [ho]; simp [Op.operands])
 have hvx := whb hE x hx
 have hvy := whb hE y hy
 unfold wsq
 split
 ·rename_i p h0
  rw [h0] at hvx
  obtain ⟨l, g1, g2⟩ := hvx.ptr_inv
  cases hq : (Nat.beq (evl e y).cells.size i.size && !isJK (evl e y)) with
  | false => rw [cond_false]; trivial
  | true =>
   rw [cond_true]
   simp only [Bool.and_eq_true, Bool.not_eq_true'] at hq
   obtain ⟨hq, hj⟩ := hq
   cases hs : wkc H p (evl e y).cells.toList with
   | none => trivial
   | some H' =>
    intro _
    obtain ⟨r1, r2, r3⟩ := wys (P := P) hR hs g1 (hvy.cells hj)
    refine ⟨.skip, undef, _, ρ, ?_, rfl, .flat wwg, r2, r3⟩
    have hsz : ¬ (a.eval y).cells.size ≠ i.size := by
     have h1 := Nat.eq_of_beq_eq_true hq
     have h2 := hvy.cells_size hj
     omega
    simp only [execOp, ho, g2]
    simp only [Instr.storeAt, Instr.sureAddr, storeVar, Sem.run_bind, Sem.run_pure, Result.andThen_ok, whc hi, hsz, if_false, r1]
 ·trivial
end
end Go.Den
namespace Go.Den
noncomputable section
variable {P : Program}
theorem wur {ρ : Ren} {x x' : Value} {n : Nat} (hv : VR ρ x x') (h : lenA x = some n) (w : World) : (Builtin.lenOf x').run P w = .ok n w := by
 unfold lenA at h
 split at h
 ·rename_i a m c
  cases h
  cases a with
  | none => rw [hv.of_flat rfl]; rfl
  | some a => obtain ⟨_, _, rfl⟩ := hv.slice_len; rfl
 ·rename_i s
  cases h
  rw [hv.string_inv]
  simp [Builtin.lenOf]
 ·unfold lenAF at h
  split at h
  ·rename_i q hq
   cases h
   obtain ⟨_, _, rfl⟩ := hv.row_len hq
   rfl
  ·cases h
theorem wzs {ρ : Ren} {B : Nat} {H : AH} {w : World} (hR : Rel ρ B H w) {size n : Nat} {x x' : Value} {l : List Value} (hv : VR ρ x x') (h : weh H size n x = some l) :
  l.length = n * size ∧ ∀ w2 : World, w2.heap = w.heap → ∃ cs : Array Value, (Builtin.firstCells size n x').run P w2 = .ok cs w2 ∧ VRL ρ l cs.toList := by
 have fl : woz size n (asFL x) = some l → l.length = n * size ∧ ∀ w2 : World, w2.heap = w.heap → ∃ cs : Array Value, (Builtin.firstCells size n x').run P w2 = .ok cs w2 ∧ VRL ρ l cs.toList := by
  intro h
  unfold woz at h
  split at h
  ·rename_i q hq
   cases hc : (Nat.ble n q.1 && (Nat.blt 0 n && Nat.ble (n * size) q.2.length)) with
   | false => rw [hc, cond_false] at h; cases h
   | true =>
    rw [hc, cond_true] at h
    cases h
    simp only [Bool.and_eq_true, Nat.ble_eq, Nat.blt_eq] at hc
    rcases hv.row_inv hq with ⟨_, _, h0, _⟩ | ⟨b, o, c', f, g1, _, g2, g3⟩
    ·omega
    ·refine ⟨by simp; omega, fun w2 h2 => ?_⟩
     obtain ⟨arr, k1, k2⟩ := whi (P := P) (off := 0) (n := n * size) hR g2 g3 (by omega) h2
     have e0 : slotsOf q.2 0 (n * size) = q.2.take (n * size) := by simp [slotsOf]
     rw [e0] at k2
     exact ⟨arr, by rw [g1]; exact k1, k2⟩
  ·cases h
 cases x with
 | slice a len c =>
  cases a with
  | none => simp [weh, asFL, woz] at h
  | some a =>
   obtain ⟨loc, c', rfl, h1, h2, h3⟩ := wxs (P := P) hR hv h
   exact ⟨h2, fun w2 hw => h3 w2 hw⟩
 | func fn f c => exact fl h
 | string s =>
  rw [hv.string_inv]
  simp only [weh] at h
  cases hq : (Nat.beq size 1 && Nat.ble n s.data.toList.length) with
  | false => rw [hq, cond_false] at h; cases h
  | true =>
   rw [hq, cond_true] at h
   cases h
   simp only [Bool.and_eq_true, Nat.beq_eq, Nat.ble_eq] at hq
   obtain ⟨rfl, hn⟩ := hq
   refine ⟨by simp [u8s]; simp at hn; omega, fun w2 _ => ⟨(s.extract 0 n).data.map fun b => .int .u8 b.toNat, by simp [Builtin.firstCells], ?_⟩⟩
   have e : ((s.extract 0 n).data.map fun b => Value.int .u8 b.toNat).toList = u8s (s.data.toList.take n) := by
    simp [u8s, ByteArray.data_extract]
   rw [e]
   exact .flat fun v hv => by
    simp only [u8s, List.mem_map] at hv
    obtain ⟨b, _, rfl⟩ := hv
    rfl
 | _ => simp [weh, asFL, woz] at h
structure AppTys (P : Program) (at_ : Array TypeId) (elem : TypeId) (ti : TypeInfo) (z : Value) : Prop where
 ex : ∃ st xt d, at_[0]? = some st ∧ tyU P st = some (.slice elem) ∧ at_[1]? = some xt ∧ tyU P xt = some d ∧ ((∃ e2, d = .slice e2) ∨ d = .string)
 info : wec P elem = some ti
 zero : ti.zero = some z
 size : z.cells.size = ti.size
 pos : 0 < ti.size
theorem wvr {at_ : Array TypeId} {elem : TypeId} {ti : TypeInfo} {z : Value} (hT : AppTys P at_ elem ti z) {w w' : World} {ty : TypeId} {a : Addr} {len n cap : Nat} {x' : Value} {new : Array Value} (hn : (Builtin.lenOf x').run P w = .ok n w)
  (hnew : (Builtin.firstCells ti.size n x').run P w = .ok new w) (hcap : len + n ≤ cap) (hst : (storeCells (a.add (len * ti.size)) new.toList).run P w = .ok () w') :
  (Builtin.append_ at_ ty #[.slice (some a) len cap, x']).run P w = .ok (.slice (some a) (len + n) cap) w' := by
 obtain ⟨st, xt, d, h1, h2, h3, h4, h5⟩ := hT.ex
 rcases h5 with ⟨e2, rfl⟩ | rfl <;> simp [Builtin.append_, h1, h3, wz h2, whc hT.info, hn, hnew, hcap, hst, wz h4]
theorem wto {at_ : Array TypeId} {elem : TypeId} {ti : TypeInfo} {z : Value} (hT : AppTys P at_ elem ti z) {w : World} {ty : TypeId} {base : Option Addr} {len n cap : Nat} {x' : Value} {old new : Array Value} (hn : (Builtin.lenOf x').run P w = .ok n w)
  (hold : (Builtin.firstCells ti.size len (.slice base len cap)).run P w.drew = .ok old w.drew) (hnew : (Builtin.firstCells ti.size n x').run P w.drew = .ok new w.drew) (hcap : cap < len + n) (hb : roomy (len + n) ti.bytes = true) :
  (Builtin.append_ at_ ty #[.slice base len cap, x']).run P w =
   .ok (.slice (some ⟨w.heap.size, 0, none⟩) (len + n) (grownCap w (len + n) cap elem)) (w.drew.alloc (.cells (old ++ new ++ Builtin.zeroCells z.cells (grownCap w (len + n) cap elem - (len + n))) elem)) := by
 obtain ⟨st, xt, d, h1, h2, h3, h4, h5⟩ := hT.ex
 simp only [roomy, Bool.and_eq_true, Nat.ble_eq] at hb
 have hfit := growslice_fits (bytes := ti.bytes) hcap (by have : (len + n) * ti.bytes ≤ 16777216 * 1048576 := Nat.mul_le_mul hb.1 hb.2; omega)
 have h48 : ¬ (281474976710656 < Builtin.nextslicecap (len + n) cap * ti.bytes) := by omega
 have h63 : ¬ (9223372036854775807 < ((len : Int) + (n : Int))) := by omega
 have hc : ¬ (len + n ≤ cap) := by omega
 rcases h5 with ⟨e2, rfl⟩ | rfl <;> simp [Builtin.append_, h1, h3, wz h2, whc hT.info, wtr hT.info, hn, hnew, hold, hc, h48, h63, wz h4, wpo hT.info hT.zero, newRow, Question.forced, grownCap]
theorem Ext.push {ρ : Ren} {B : Nat} {H : AH} {w w' : World} {o : Obj} {b : ABlk} {l : Loc} (hR : Rel ρ B H w) (hk : wmb H.n = true) (hp : w'.heap = w.heap.push o) (hl : l.block = w.heap.size) (hfree : ∀ ver, ρ H.n ver = none)
  (hb : ∀ ρ', Sub ρ ρ' → ρ' H.n 0 = some l → BRel ρ' w' b 0 l) (hwf : ∀ c, b = .cells c → c.WF) (hsame : w'.os = w.os ∧ w'.output = w.output := by exact ⟨rfl, rfl⟩) : Rel (ρ.add H.n 0 l) B (H.push b) w' ∧ Ext ρ H w (ρ.add H.n 0 l) (H.push b) w' := by
 have hn : (H.push b).n = H.n + 1 := by rw [AH.push_eq]
 have hg := fun i => AH.get_push (H := H) hk b i
 refine ⟨Rel.born hR hp hl hfree hg hb hwf ?_, ⟨Ren.sub_add (hfree 0), by rw [hp]; simp, ?_, ?_, ?_, by omega, ?_, ?_, hsame, fun _ _ _ h => .inl h⟩⟩
 ·intro i c hc
  rw [hg] at hc
  split at hc
  ·omega
  ·have := hR.low i c hc; omega
 ·intro c hc _
  rw [hp, Array.getElem?_push, if_neg (by omega)]
 ·intro i v x h1 h0
  rcases Ren.add_cases h1 with ⟨_, _, h3⟩ | h3
  ·rw [h3]; exact .inl (by omega)
  ·rw [h0] at h3; cases h3
 ·intro i v x h1 h0
  rcases Ren.add_cases h1 with ⟨h3, _, _⟩ | h3
  ·exact .inl (by omega)
  ·rw [h0] at h3; cases h3
 ·intro i hi; rw [hg]; split <;> simp_all
 ·intro i hi
  rw [hg] at hi
  split at hi
  ·exact .inr (by omega)
  ·exact .inl hi
theorem wch (z : Array Value) (n : Nat) : (Builtin.zeroCells z n).size = n * z.size := by simp [Builtin.zeroCells]
theorem fresh_ok {ρ : Ren} {B : Nat} {H : AH} {w : World} (hR : Rel ρ B H w) {elem : TypeId} {ti : TypeInfo} {z : Value} {s : Sem Next} {fresh n cap : Nat} {cs : List Value} {arr : Array Value} (hz : z.cells.size = ti.size) (hs : 0 < ti.size)
  (hlen : cs.length = n * ti.size) (hn : n ≤ cap) (hrel : VRL ρ cs arr.toList) (hrun : s.run P w = .ok (.value (.slice (some ⟨w.heap.size, 0, none⟩) n cap)) (w.drew.alloc (.cells (arr ++ Builtin.zeroCells z.cells (cap - n)) elem))) :
  ResOK P ρ B H w s fresh (wwi H elem ti.size cs n) := by
 unfold wwi
 cases hq : wmb H.n with
 | false => rw [cond_false]; trivial
 | true =>
  rw [cond_true]
  intro hfree
  have hf : ∀ ver, ρ H.n ver = none := fun ver => hfree H.n ver (Nat.le_refl _) (by rw [AH.push_eq]; exact Nat.lt_succ_self _)
  have hsz : (arr ++ Builtin.zeroCells z.cells (cap - n)).size = cap * ti.size := by
   have h1 : arr.size = n * ti.size := by have := hrel.1; simp at this; omega
   rw [Array.size_append, wch, hz, h1, ← Nat.add_mul]
   congr 1
   omega
  have hb : ∀ ρ', Sub ρ ρ' → ρ' H.n 0 = some ⟨w.heap.size, cap, ti.size⟩ → BRel ρ' (w.drew.alloc (.cells (arr ++ Builtin.zeroCells z.cells (cap - n)) elem)) (.cells { cells := cs, elem := elem, esz := ti.size, lens := [cs.length], wver := 0, frz := 0, pf := wcb cs }) 0 ⟨w.heap.size, cap, ti.size⟩ := by
   intro ρ' h1 h2
   refine wlx (w := w) (arr := arr ++ Builtin.zeroCells z.cells (cap - n)) (fz := (0, 0)) rfl rfl ?_ ?_ ?_ ?_ rfl
   ·intro i v hv
    obtain ⟨v', h3, h4⟩ := hrel.get hv
    refine ⟨v', ?_, h4.mono h1⟩
    have hi : i < arr.size := by
     rcases Nat.lt_or_ge i arr.toList.length with h | h
     ·simpa using h
     ·rw [List.getElem?_eq_none h] at h3; cases h3
    rw [Array.getElem?_append_left hi]
    simpa using h3
   ·intro h; cases h
   ·intro _
    refine ⟨hsz, ?_⟩
    rw [hsz]
    show cs.length ≤ _
    rw [hlen]
    exact Nat.mul_le_mul_right _ hn
   ·intro i _; simp
  have hwf : ∀ c, ABlk.cells { cells := cs, elem := elem, esz := ti.size, lens := [cs.length], wver := 0, frz := 0, pf := wcb cs } = .cells c → c.WF := by
   intro c hc
   cases hc
   exact ⟨by simp, Nat.zero_le _, fun h => h⟩
  obtain ⟨r1, r2⟩ := Ext.push (w' := w.drew.alloc (.cells (arr ++ Builtin.zeroCells z.cells (cap - n)) elem)) hR hq rfl rfl hf hb hwf
  refine ⟨_, _, _, _, hrun, rfl, ?_, r1, r2⟩
  have := VR.slice_mk (ρ := ρ.add H.n 0 ⟨w.heap.size, cap, ti.size⟩) (a := ⟨H.n, 0, some 0⟩) (len := n) (c := 0) (Ren.add_self _ _ _ _)
  simpa [capOf] using this
theorem wpv {w : World} {b N : Nat} {e : TypeId} (h : w.shape? b = some (e, N)) (i : Nat) (hi : i < N) : (w.cell? ⟨b, i, none⟩).isSome = true := by
 unfold World.shape? at h
 split at h
 ·rename_i c el fz hb
  cases h
  simp [World.cell?, hb, hi]
 ·cases h
theorem wox {ρ : Ren} {B : Nat} {H : AH} {w : World} (hR : Rel ρ B H w) {at_ : Array TypeId} {ty elem : TypeId} {ti : TypeInfo} {z : Value} (hT : AppTys P at_ elem ti z) {fresh n len : Nat} {a : Addr} {s' x' : Value} {new : List Value}
  (hs : VR ρ (.slice (some a) len 0) s') (hn : (Builtin.lenOf x').run P w = .ok n w) (hnl : new.length = n * ti.size) (hnew : ∀ w2 : World, w2.heap = w.heap → ∃ cs : Array Value, (Builtin.firstCells ti.size n x').run P w2 = .ok cs w2 ∧ VRL ρ new cs.toList)
  (hb : roomy (len + n) ti.bytes = true) : ResOK P ρ B H w (wvc (Builtin.append_ at_ ty #[s', x'])) fresh (wms H elem ti.size a len n new) := by
 unfold wms
 cases hq : (wph ti.size a H (len * ti.size) && Nat.blt 0 len) with
 | false => rw [cond_false]; trivial
 | true =>
  rw [cond_true]
  simp only [Bool.and_eq_true, Nat.blt_eq] at hq
  obtain ⟨hq1, hlen⟩ := hq
  split
  ·rename_i b hb1
   cases hq2 : (whhb b elem ti.size a len && new.all oneCell) with
   | false => rw [cond_false]; trivial
   | true =>
    rw [cond_true]
    simp only [whhb, Bool.and_eq_true, Nat.beq_eq, Nat.ble_eq] at hq2
    obtain ⟨⟨t1, t2, ⟨t3, t4⟩, t5, t6⟩, hone⟩ := hq2
    intro hfree
    obtain ⟨l, g1, g2⟩ := hs.slice_inv (.inl hlen)
    obtain ⟨r1, r2, r3, r4⟩ := wii hR hq1 g1
    obtain ⟨b', hb2, o1, o2, o3, o4⟩ := wjk hq1
    have hbb : b' = b := by rw [hb1] at hb2; exact (Option.some.inj hb2).symm
    subst hbb
    obtain ⟨k1, k2, k3, k4⟩ := wbe hb1
    have hC := wqs hR hb1 g1
    obtain ⟨N, s1, s2, s3, s4⟩ := hC.shape
    obtain ⟨s5, s6⟩ := s3 o2
    have hwf := hR.wf _ _ k1
    have hcapd : capOf l a 0 = l.cap := by simp [capOf, t3]
    have hslots : VRL ρ b'.cells b'.cells → True := fun _ => trivial
    have hverlt : ∀ ver l', ρ a.block ver = some l' → ver ≤ b'.top := fun ver l' h => (hR.blk _ _ _ _ h k1).1
    have hnone : ρ a.block (b'.top + 1) = none := by
     cases hx : ρ a.block (b'.top + 1) with
     | none => rfl
     | some l' => have := hverlt _ _ hx; omega
    have hlens : ∃ x r, b'.lens = x :: r := by
     cases hl : b'.lens with
     | nil => exact absurd hl o2
     | cons x r => exact ⟨x, r, rfl⟩
    have htop : ({ b' with cells := b'.cells ++ new, lens := (b'.cells ++ new).length :: b'.lens, pf := b'.pf && wcb new } : CBlk).top = b'.top + 1 := by
     obtain ⟨x, r, hx⟩ := hlens
     simp [CBlk.top, hx]
    have hlenAt : ∀ ver, ver ≤ b'.top → ({ b' with cells := b'.cells ++ new, lens := (b'.cells ++ new).length :: b'.lens, pf := b'.pf && wcb new } : CBlk).lenAt ver = b'.lenAt ver := by
     intro ver hv
     obtain ⟨x, r, hx⟩ := hlens
     unfold CBlk.lenAt
     rw [htop]
     simp only [hx]
     rw [show b'.top + 1 - ver = (b'.top - ver) + 1 by omega]
     simp
    have hlenTop : ({ b' with cells := b'.cells ++ new, lens := (b'.cells ++ new).length :: b'.lens, pf := b'.pf && wcb new } : CBlk).lenAt (b'.top + 1) = (b'.cells ++ new).length := by
     unfold CBlk.lenAt
     rw [htop]
     simp
    have hwf1 : ∀ c, ABlk.cells { b' with cells := b'.cells ++ new, lens := (b'.cells ++ new).length :: b'.lens, pf := b'.pf && wcb new } = .cells c → c.WF := by
     intro c hc
     cases hc
     refine ⟨?_, ?_, fun hp => ?_⟩
     rotate_left 2
     ·simp only [Bool.and_eq_true] at hp
      have h1 := hwf.pf hp.1
      rw [wpd] at h1 ⊢
      intro x hx
      rcases List.mem_append.1 hx with h2 | h2
      ·exact h1 x h2
      ·exact (wpd _).1 hp.2 x h2
     ·intro m hm
      simp only [List.mem_cons] at hm
      rcases hm with rfl | hm
      ·exact Nat.le_refl _
      ·have := hwf.lens m hm; simp; omega
     ·rw [htop]; have := hwf.wver; simp only; omega
    have hnl2 : (b'.cells ++ new).length = (len + n) * ti.size := by
     rw [List.length_append, hnl, ← t4, Nat.add_mul]
    by_cases hroom : len + n ≤ l.cap
    ·
     obtain ⟨cs, c1, c2⟩ := hnew w rfl
     have hcsl : cs.toList.length = n * ti.size := by have := c2.1; omega
     have hN : (len + n) * ti.size ≤ N := by rw [s5, o1]; exact Nat.mul_le_mul_right _ hroom
     have hcells : ∀ j, j < cs.toList.length → (w.cell? ⟨l.block, len * ti.size + j, none⟩).isSome = true := fun j hj => wpv s1 _ (by rw [Nat.add_mul] at hN; omega)
     have hfz : ∀ j, j < cs.toList.length → w.frozen? ⟨l.block, len * ti.size + j, none⟩ = false := fun j hj => s4 _ (by omega) (by rw [Nat.add_mul] at hN; omega)
     have hst := run_storeCells_cells (P := P) l.block (len * ti.size) cs.toList 0 w (by simpa using hcells) (by simpa using hfz) (wvl c2 hone)
     simp only [Nat.add_zero] at hst
     have hrun := wvr (ty := ty) hT (a := ⟨l.block, a.off, none⟩) (len := len) (cap := l.cap) hn c1 hroom (by rw [addr_add, t3, Nat.zero_add]; exact hst)
     obtain ⟨hs1, hs2⟩ := wsh l.block cs.toList (len * ti.size) w
     obtain ⟨q1, q2⟩ := Rel.write (hsame := wkk _ _ _ _) (ρ' := ρ.add a.block (b'.top + 1) l) (w' := w.setCells l.block (len * ti.size) cs.toList) (b1 := .cells { b' with cells := b'.cells ++ new, lens := (b'.cells ++ new).length :: b'.lens, pf := b'.pf && wcb new }) hR (Ren.sub_add hnone)
      (fun id' ver l' h => by
       rcases Ren.add_cases h with ⟨e1, e2, e3⟩ | h
       ·exact .inr ⟨e1, by rw [e3, hs1]; exact (hR.bnd _ _ _ g1).2, .inr ⟨_, l, g1, by rw [e3]⟩, _, l, g1⟩
       ·exact .inl h) k1 t6 (by omega) (fun c hc himg => hs2 c fun e => himg _ _ g1 e.symm)
      (by
       intro ver l' hl'
       have hshape : ∀ r, (w.setCells l.block (len * ti.size) cs.toList).shape? r = w.shape? r := fun r => wjg _ _ _ _ _
       have hout : ∀ (bk i : Nat), i < b'.cells.length → (w.setCells l.block (len * ti.size) cs.toList).cell? ⟨bk, i, none⟩ = w.cell? ⟨bk, i, none⟩ := fun bk i hi => World.cell?_setCells_out _ _ _ _ _ (fun _ _ => .inl (by simp only; omega))
       rcases Ren.add_cases hl' with ⟨e1, e2, e3⟩ | hl'
       ·subst e2; subst e3
        refine ⟨by rw [htop]; exact Nat.le_refl _, fun _ => ⟨⟨N, by rw [hshape]; exact s1, fun hz => (by cases hz), fun _ => ⟨s5, by rw [hlenTop, hnl2]; exact hN⟩, fun i hi hi' => by rw [World.frozen?_setCells]; exact s4 i hi hi'⟩, ?_, hC.esz, fun hm => by rw [wth]; exact hC.hi hm⟩⟩
        intro i v hi hv
        simp only at hv
        by_cases hlt : i < b'.cells.length
        ·rw [List.getElem?_append_left hlt] at hv
         obtain ⟨v', p1, p2⟩ := hC.vals i v (by rw [t2] at k4 ⊢; have := k4; omega) hv
         exact ⟨v', by rw [hout _ _ hlt]; exact p1, p2.mono (Ren.sub_add hnone)⟩
        ·rw [List.getElem?_append_right (by omega)] at hv
         obtain ⟨v', p1, p2⟩ := c2.get hv
         have hj : i - b'.cells.length < cs.toList.length := by
          rcases Nat.lt_or_ge (i - b'.cells.length) cs.toList.length with h | h
          ·exact h
          ·rw [List.getElem?_eq_none h] at p1; cases p1
         have p3 := World.cell?_setCells_in l'.block cs.toList (len * ti.size) w hcells (i - b'.cells.length) hj
         rw [show len * ti.size + (i - b'.cells.length) = i by omega] at p3
         rw [List.getElem?_eq_getElem hj] at p1
         cases p1
         exact ⟨_, p3, p2.mono (Ren.sub_add hnone)⟩
       ·have hver := hverlt _ _ hl'
        refine ⟨by rw [htop]; omega, fun hw => ?_⟩
        obtain ⟨hC'⟩ : Nonempty (CRel ρ w b' ver l') := ⟨(hR.blk _ _ _ _ hl' k1).2 hw⟩
        obtain ⟨N', u1, u2, u3, u4⟩ := hC'.shape
        refine ⟨⟨N', by rw [hshape]; exact u1, fun hz => (by cases hz), fun _ => ⟨(u3 o2).1, by rw [hlenAt _ hver]; exact (u3 o2).2⟩, fun i hi hi' => by rw [World.frozen?_setCells]; exact u4 i hi hi'⟩, ?_, hC'.esz, fun hm => by rw [wth]; exact hC'.hi hm⟩
        intro i v hi hv
        rw [hlenAt _ hver] at hi
        have hlt : i < b'.cells.length := Nat.lt_of_lt_of_le hi (hwf.lenAt_le _)
        simp only at hv
        rw [List.getElem?_append_left hlt] at hv
        obtain ⟨v', p1, p2⟩ := hC'.vals i v hi hv
        exact ⟨v', by rw [hout _ _ hlt]; exact p1, p2.mono (Ren.sub_add hnone)⟩) hwf1 (fun _ _ _ h => .inl h)
      (fun ver l' i v h1 h2 h3 => by
       have h3 : i < b'.frz := h3
       have hfr : i < b'.cells.length := by omega
       rw [World.cell?_setCells_out l.block cs.toList (len * ti.size) w _ (fun _ _ => .inl (by simp only; omega))]
       exact hR.fz.cell _ _ _ h2) (fun _ _ h => h) (fun _ _ _ _ _ _ _ _ _ h => h)
     refine ⟨_, _, _, _, by rw [wy, g2, hcapd, hrun]; rfl, rfl, ?_, q1, q2⟩
     have := VR.slice_mk (ρ := ρ.add a.block (b'.top + 1) l) (a := ⟨a.block, a.off, some (b'.top + 1)⟩) (len := len + n) (c := 0) (Ren.add_self _ _ _ _)
     simpa [capOf, t3] using this
    ·
     obtain ⟨cs, c1, c2⟩ := hnew w.drew rfl
     have hR2 : Rel ρ B H w.drew := ⟨fun id ver l b h1 h3 => (hR.blk id ver l b h1 h3).keep (.refl ρ) rfl, hR.wf, hR.low, hR.sep, hR.bnd, hR.base, ⟨hR.fz.cell, hR.fz.sep⟩⟩
     obtain ⟨olds, d1, d2⟩ := wsl (P := P) hR2 hb1 g1
     have hslot : slotsOf b'.cells a.off (len * ti.size) = b'.cells := by simp [slotsOf, t3, t4]
     rw [hslot] at d2
     have hrun := wto (ty := ty) hT (base := some ⟨l.block, a.off, none⟩) (len := len) (cap := l.cap) (w := w) hn (by simpa [Builtin.firstCells] using d1) c1 (by omega) hb
     have hge := grownCap_ge w (len + n) l.cap elem
     have hrel : VRL ρ (b'.cells ++ new) (olds ++ cs).toList := by rw [Array.toList_append]; exact d2.append c2
     have hsz : (olds ++ cs ++ Builtin.zeroCells z.cells (grownCap w (len + n) l.cap elem - (len + n))).size = grownCap w (len + n) l.cap elem * ti.size := by
      have h1 : (olds ++ cs).size = (len + n) * ti.size := by
       have := hrel.1
       rw [hnl2] at this
       rw [← Array.length_toList]
       omega
      rw [Array.size_append, wch, hT.size, h1, ← Nat.add_mul]
      congr 1
      omega
     have hheap : (w.drew.alloc (.cells (olds ++ cs ++ Builtin.zeroCells z.cells (grownCap w (len + n) l.cap elem - (len + n))) elem)).heap = w.heap.push (.cells (olds ++ cs ++ Builtin.zeroCells z.cells (grownCap w (len + n) l.cap elem - (len + n))) elem) := rfl
     obtain ⟨q1, q2⟩ := Rel.write (ρ' := ρ.add a.block (b'.top + 1) ⟨w.heap.size, grownCap w (len + n) l.cap elem, ti.size⟩) (w' := w.drew.alloc (.cells (olds ++ cs ++ Builtin.zeroCells z.cells (grownCap w (len + n) l.cap elem - (len + n))) elem))
      (b1 := .cells { b' with cells := b'.cells ++ new, lens := (b'.cells ++ new).length :: b'.lens, pf := b'.pf && wcb new }) hR (Ren.sub_add hnone)
      (fun id' ver l' h => by
       rcases Ren.add_cases h with ⟨e1, e2, e3⟩ | h
       ·exact .inr ⟨e1, by rw [e3, hheap]; simp, .inl (by rw [e3]; exact Nat.le_refl _), _, l, g1⟩
       ·exact .inl h) k1 t6 (by rw [hheap]; simp) (fun c hc _ => by rw [hheap, Array.getElem?_push, if_neg (by omega)])
      (by
       intro ver l' hl'
       rcases Ren.add_cases hl' with ⟨e1, e2, e3⟩ | hl'
       ·subst e2; subst e3
        have hget : (w.drew.alloc (.cells (olds ++ cs ++ Builtin.zeroCells z.cells (grownCap w (len + n) l.cap elem - (len + n))) elem)).heap[w.heap.size]? = some (.cells (olds ++ cs ++ Builtin.zeroCells z.cells (grownCap w (len + n) l.cap elem - (len + n))) elem (0, 0)) := by rw [hheap]; simp
        refine ⟨by rw [htop]; exact Nat.le_refl _, fun _ => ⟨⟨grownCap w (len + n) l.cap elem * ti.size, by simp only [World.shape?, hget, t1, hsz], fun hz => (by cases hz), fun _ => ⟨by rw [o1], ?_⟩, fun i _ hi' => (by simp only [World.frozen?, hget]; simp)⟩, ?_, o1.symm, fun _ => by simp only [hiOf, hget]; exact Nat.zero_le _⟩⟩
        ·rw [hlenTop, hnl2]; exact Nat.mul_le_mul_right _ hge
        ·intro i v hi hv
         simp only at hv
         obtain ⟨v', p1, p2⟩ := hrel.get hv
         refine ⟨v', ?_, p2.mono (Ren.sub_add hnone)⟩
         have hj : i < (olds ++ cs).size := by
          rcases Nat.lt_or_ge i (olds ++ cs).toList.length with h | h
          ·rwa [Array.length_toList] at h
          ·rw [List.getElem?_eq_none h] at p1; cases p1
         simp only [World.cell?, hget, Option.isSome_none, Bool.false_eq_true, if_false]
         rw [Array.getElem?_append_left hj]
         rw [Array.getElem?_toList] at p1
         exact p1
       ·have hver := hverlt _ _ hl'
        refine ⟨by rw [htop]; omega, fun hw => ?_⟩
        have hlt' := (hR.bnd _ _ _ hl').2
        obtain ⟨hC'⟩ : Nonempty (CRel ρ w b' ver l') := ⟨(hR.blk _ _ _ _ hl' k1).2 hw⟩
        obtain ⟨N', u1, u2, u3, u4⟩ := hC'.shape
        refine ⟨⟨N', by rw [wfdb hheap _ hlt']; exact u1, fun hz => (by cases hz), fun _ => ⟨(u3 o2).1, by rw [hlenAt _ hver]; exact (u3 o2).2⟩, fun i hi hi' => by rw [wsz hheap _ hlt']; exact u4 i hi hi'⟩, ?_, hC'.esz, fun hm => by have := hC'.hi hm; unfold hiOf at this ⊢; rw [hheap, Array.getElem?_push, if_neg (Nat.ne_of_lt hlt')]; exact this⟩
        intro i v hi hv
        rw [hlenAt _ hver] at hi
        have hlt : i < b'.cells.length := Nat.lt_of_lt_of_le hi (hwf.lenAt_le _)
        simp only at hv
        rw [List.getElem?_append_left hlt] at hv
        obtain ⟨v', p1, p2⟩ := hC'.vals i v hi hv
        exact ⟨v', by rw [wwj hheap _ hlt']; exact p1, p2.mono (Ren.sub_add hnone)⟩) hwf1 (fun _ _ _ h => .inl h)
      (fun ver l' i v h1 h2 _ => by
       rw [wwj hheap ⟨l'.block, i, none⟩ (hR.fz.lt h2)]
       exact hR.fz.cell _ _ _ h2) (fun _ _ h => h) (fun _ _ _ _ _ _ _ _ _ h => h)
     refine ⟨_, _, _, _, by rw [wy, g2, hcapd, hrun]; rfl, rfl, ?_, q1, q2⟩
     have := VR.slice_mk (ρ := ρ.add a.block (b'.top + 1) ⟨w.heap.size, grownCap w (len + n) l.cap elem, ti.size⟩) (a := ⟨a.block, a.off, some (b'.top + 1)⟩) (len := len + n) (c := 0) (Ren.add_self _ _ _ _)
     simpa [capOf, t3] using this
  ·trivial
end
end Go.Den
namespace Go.Den
noncomputable section
variable {P : Program}
mutual
theorem wzdb {ρ : Ren} : ∀ (v v' : Value), VR ρ v v' → VR ρ (nfV v) v'
 | .slice a n c, v', h => by
  cases n with
  | succ n => exact h
  | zero =>
   simp only [nfV]
   cases hq : Nat.ble c 1 with
   | false => exact h
   | true =>
    rw [cond_true]
    cases a with
    | none => rw [h.of_flat rfl]; exact .listNo
    | some a => obtain ⟨a', c', rfl⟩ := h.slice_len; exact .listNo
 | .iface t v, v', h => by
  simp only [nfV]
  cases h with
  | flat hf =>
   simp only [Go.Den.flat] at hf
   exact .iface (wzdb v v (.flat hf))
  | iface h => exact .iface (wzdb v _ h)
 | .agg ⟨cs⟩, v', h => by
  simp only [nfV]
  obtain ⟨cs', rfl, h2⟩ := h.agg_inv
  exact .agg_mk (wat cs _ h2)
 | .tuple ⟨cs⟩, v', h => by
  simp only [nfV]
  obtain ⟨cs', rfl, h2⟩ := h.tuple_inv
  exact .tuple_mk (wat cs _ h2)
 | .bool _, _, h => h
 | .int _ _, _, h => h
 | .float _ _, _, h => h
 | .complex _ _ _, _, h => h
 | .string _, _, h => h
 | .pointer _, _, h => h
 | .map _, _, h => h
 | .chan _, _, h => h
 | .func _ _ _, _, h => h
 | .nilFunc, _, h => h
 | .nilIface, _, h => h
theorem wat {ρ : Ren} : ∀ (l l' : List Value), VRL ρ l l' → VRL ρ (nfL l) l'
 | [], l', h => h
 | v :: r, l', h => by
  obtain ⟨v', r', rfl, h1, h2⟩ := h.uncons
  simp only [nfL]
  exact .cons (wzdb v v' h1) (wat r r' h2)
end
theorem wgh {α : Type} {l : List α} {i : Nat} {v : α} (e : l[i]? = some v) : i < l.length := by
 rcases Nat.lt_or_ge i l.length with h | h
 ·exact h
 ·rw [List.getElem?_eq_none h] at e; cases e
theorem waeb {ρ : Ren} {B : Nat} {H : AH} {w : World} (hR : Rel ρ B H w) {elem : TypeId} {ti : TypeInfo} {z : Value} {s : Sem Next} {fresh n cap : Nat} {cs : List Value} {arr : Array Value} (hz : z.cells.size = ti.size)
  (hlen : cs.length = n * ti.size) (hn : n ≤ cap) (hrel : VRL ρ cs arr.toList) (hrun : s.run P w = .ok (.value (.slice (some ⟨w.heap.size, 0, none⟩) n cap)) (w.drew.alloc (.cells (arr ++ Builtin.zeroCells z.cells (cap - n)) elem))) :
  ResOK P ρ B H w s fresh (wsr H elem ti.size cs n) := by
 unfold wsr
 cases hq : wpu H cs with
 | false => rw [cond_false]; trivial
 | true =>
  rw [cond_true]
  simp only [wpu, Bool.and_eq_true] at hq
  obtain ⟨hno, _, hk⟩ := hq
  rw [wpd] at hno
  intro hfree
  have hf : ∀ ver, ρ H.n ver = none := fun ver => hfree H.n ver (Nat.le_refl _) (by rw [AH.push_eq]; exact Nat.lt_succ_self _)
  have has : arr.size = cs.length := by have := hrel.1; simpa using this.symm
  have hsz : (arr ++ Builtin.zeroCells z.cells (cap - n)).size = cap * ti.size := by
   rw [Array.size_append, wch, hz, has, hlen, ← Nat.add_mul]
   congr 1
   omega
  generalize hw2 : w.drew.alloc (.cells (arr ++ Builtin.zeroCells z.cells (cap - n)) elem) = w2 at hrun
  have hp : w2.heap = w.heap.push (.cells (arr ++ Builtin.zeroCells z.cells (cap - n)) elem (0, 0)) := by rw [← hw2]; rfl
  have hsame : w2.os = w.os ∧ w2.output = w.output := by rw [← hw2]; exact ⟨rfl, rfl⟩
  have hget2 : w2.heap[w.heap.size]? = some (.cells (arr ++ Builtin.zeroCells z.cells (cap - n)) elem (0, 0)) := by rw [hp]; simp
  have hsz2 : w2.heap.size = w.heap.size + 1 := by rw [hp]; simp
  let L : Loc := ⟨w.heap.size, cap, ti.size⟩
  let ρ' : Ren := ⟨(ρ.add H.n n L).loc, fun b i => if b = w.heap.size ∧ i < cs.length then arr[i]? else ρ.cell b i⟩
  have hcellold : ∀ b i v, ρ.cell b i = some v → ρ'.cell b i = some v := by
   intro b i v h
   have := hR.fz.lt h
   show (if b = w.heap.size ∧ i < cs.length then arr[i]? else ρ.cell b i) = some v
   rw [if_neg (by omega)]
   exact h
  have hs : Sub ρ ρ' := ⟨(Ren.sub_add (hf n)).loc, hcellold⟩
  have hcase : ∀ id ver l, ρ' id ver = some l → (id = H.n ∧ ver = n ∧ l = L) ∨ ρ id ver = some l := fun id ver l h => Ren.add_cases h
  have hself : ρ' H.n n = some L := Ren.add_self ρ H.n n L
  have hcellnew : ∀ i, i < cs.length → ∃ v, arr[i]? = some v ∧ ρ'.cell w.heap.size i = some v := by
   intro i hi
   refine ⟨arr[i]'(by omega), Array.getElem?_eq_getElem (by omega), ?_⟩
   show (if w.heap.size = w.heap.size ∧ i < cs.length then arr[i]? else ρ.cell w.heap.size i) = _
   rw [if_pos ⟨rfl, hi⟩]
   exact Array.getElem?_eq_getElem (by omega)
  have hg := fun i => AH.get_push (H := H) hk (.tok n elem ti.size) i
  have hhn : (H.push (.tok n elem ti.size)).n = H.n + 1 := by rw [AH.push_eq]
  have hB := hR.base
  have hRel : Rel ρ' B (H.push (.tok n elem ti.size)) w2 := by
   refine ⟨?_, ?_, ?_, ?_, ?_, by omega, ⟨?_, ?_⟩⟩
   ·intro id ver l b hl hb
    rw [hg] at hb
    rcases hcase id ver l hl with ⟨rfl, rfl, rfl⟩ | hl
    ·rw [if_pos rfl] at hb
     cases hb
     refine ⟨Nat.le_refl _, rfl, fun _ => ⟨?_, hn, ?_, ?_⟩⟩
     ·simp only [World.shape?, L, hget2, hsz]
     ·intro i _ _
      simp only [World.frozen?, L, hget2]
      simp
     ·simp only [hiOf, L, hget2]
      exact Nat.zero_le _
    ·by_cases hi : id = H.n
     ·subst hi; rw [hf] at hl; cases hl
     ·rw [if_neg hi] at hb
      have hbd := (hR.bnd _ _ _ hl).2
      exact (hR.blk _ _ _ _ hl hb).keep hs (by rw [hp, Array.getElem?_push, if_neg (by omega)])
   ·intro i c hc
    rw [hg] at hc
    split at hc
    ·cases hc
    ·exact hR.wf i c hc
   ·intro i c hc
    rw [hg] at hc
    rw [hhn]
    split at hc
    ·omega
    ·have := hR.low i c hc; omega
   ·intro i v x i' v' x' h1 h2 e
    rcases hcase _ _ _ h1 with ⟨ha, hb1, hc⟩ | h3 <;> rcases hcase _ _ _ h2 with ⟨ha', hb1', hc'⟩ | h4
    ·rw [ha, ha']
    ·have := (hR.bnd _ _ _ h4).2; rw [hc] at e; simp only [L] at e; omega
    ·have := (hR.bnd _ _ _ h3).2; rw [hc'] at e; simp only [L] at e; omega
    ·exact hR.sep _ _ _ _ _ _ h3 h4 e
   ·intro i v x h1
    rcases hcase _ _ _ h1 with ⟨_, _, hc⟩ | h3
    ·rw [hc]; simp only [L]; omega
    ·have := hR.bnd _ _ _ h3; omega
   ·intro b i v hv
    have hv' : (if b = w.heap.size ∧ i < cs.length then arr[i]? else ρ.cell b i) = some v := hv
    split at hv'
    ·rename_i hc
     obtain ⟨rfl, hi⟩ := hc
     simp only [World.cell?, hget2]
     rw [if_neg (by simp), Array.getElem?_append_left (by omega)]
     exact hv'
    ·rw [wwj hp ⟨b, i, none⟩ (hR.fz.lt hv')]
     exact hR.fz.cell _ _ _ hv'
   ·intro id ver x i v b hx hv hb
    have hv' : (if x.block = w.heap.size ∧ i < cs.length then arr[i]? else ρ.cell x.block i) = some v := hv
    rw [hg] at hb
    rcases hcase _ _ _ hx with ⟨rfl, _, rfl⟩ | hx
    ·rw [if_pos rfl] at hb
     cases hb
     split at hv'
     ·rename_i hc; show i < n * ti.size; omega
     ·have := hR.fz.lt hv'; simp only [L] at this; omega
    ·have hbd := (hR.bnd _ _ _ hx).2
     rw [if_neg (by omega)] at hv'
     by_cases hi : id = H.n
     ·subst hi; rw [hf] at hx; cases hx
     ·rw [if_neg hi] at hb
      exact hR.fz.sep _ _ _ _ _ _ hx hv' hb
  have hExt : Ext ρ H w ρ' (H.push (.tok n elem ti.size)) w2 := by
   refine ⟨hs, by omega, ?_, ?_, ?_, by omega, ?_, ?_, hsame, ?_⟩
   ·intro c hc _
    rw [hp, Array.getElem?_push, if_neg (by omega)]
   ·intro i v x h1 h0
    rcases hcase _ _ _ h1 with ⟨_, _, h3⟩ | h3
    ·rw [h3]; exact .inl (Nat.le_refl _)
    ·rw [h0] at h3; cases h3
   ·intro i v x h1 h0
    rcases hcase _ _ _ h1 with ⟨h3, _, _⟩ | h3
    ·exact .inl (by omega)
    ·rw [h0] at h3; cases h3
   ·intro i hi; rw [hg]; split <;> simp_all
   ·intro i hi
    rw [hg] at hi
    split at hi
    ·exact .inr (by omega)
    ·exact .inl hi
   ·intro b i v hv
    have hv' : (if b = w.heap.size ∧ i < cs.length then arr[i]? else ρ.cell b i) = some v := hv
    split at hv'
    ·rename_i hc; exact .inr (.inl (by omega))
    ·exact .inl hv'
  refine ⟨_, _, w2, ρ', hrun, rfl, ?_, hRel, hExt⟩
  have := VR.own (ρ := ρ') (t := H.n) (n := n) (cs := cs) (l := L) hself hn hlen (fun i => (arr[i]?).getD undef) (fun i hi => by
   obtain ⟨v, h1, h2⟩ := hcellnew i hi
   rw [h1]; exact h2) (fun i v hv => by
   obtain ⟨v', h1, h2⟩ := hrel.get hv
   have h3 : arr[i]? = some v' := by simpa using h1
   rw [h3]
   exact VR.reloc (ρ2 := ρ'.noloc) hcellold h2 (hno v (List.mem_of_getElem? hv)))
  exact this
theorem wsn {ρ : Ren} {B : Nat} {H : AH} {w : World} (hR : Rel ρ B H w) {own : Bool} {elem : TypeId} {ti : TypeInfo} {z : Value} {s : Sem Next} {fresh n cap : Nat} {cs : List Value} {arr : Array Value} (hz : z.cells.size = ti.size) (hs : 0 < ti.size)
  (hlen : cs.length = n * ti.size) (hn : n ≤ cap) (hrel : VRL ρ cs arr.toList) (hrun : s.run P w = .ok (.value (.slice (some ⟨w.heap.size, 0, none⟩) n cap)) (w.drew.alloc (.cells (arr ++ Builtin.zeroCells z.cells (cap - n)) elem))) :
  ResOK P ρ B H w s fresh (wxf own H elem ti.size cs n) := by
 unfold wxf
 have hl : ∀ l : List Value, (nfL l).length = l.length := by
  intro l
  induction l with
  | nil => rfl
  | cons a l ih => simp [nfL, ih]
 cases own with
 | false => exact fresh_ok hR hz hs hlen hn hrel hrun
 | true => exact waeb hR hz (by rw [hl]; exact hlen) hn (wat _ _ hrel) hrun
theorem wwjb : ∀ l : List Value, (nfL l).length = l.length := by
 intro l
 induction l with
 | nil => rfl
 | cons a l ih => simp [nfL, ih]
theorem wpx {ρ : Ren} {B : Nat} {H : AH} {w : World} (hR : Rel ρ B H w) {at_ : Array TypeId} {ty elem : TypeId} {ti : TypeInfo} {z : Value} (hT : AppTys P at_ elem ti z) {fresh t n len : Nat} {cs : List Value} {s' x' : Value} {new : List Value}
  (hs : VR ρ (FO t len cs) s') (hpos : 0 < n) (hn : (Builtin.lenOf x').run P w = .ok n w) (hnl : new.length = n * ti.size) (hnew : ∀ w2 : World, w2.heap = w.heap → ∃ cs : Array Value, (Builtin.firstCells ti.size n x').run P w2 = .ok cs w2 ∧ VRL ρ new cs.toList)
  (hb : roomy (len + n) ti.bytes = true) : ResOK P ρ B H w (wvc (Builtin.append_ at_ ty #[s', x'])) fresh (wqn H elem ti.size t len cs new n) := by
 unfold wqn
 split
 ·rename_i m el es hget
  cases hq : wks m el es elem ti.size t len cs new with
  | false => rw [cond_false]; trivial
  | true =>
   rw [cond_true]
   simp only [wks, Bool.and_eq_true, Nat.beq_eq] at hq
   obtain ⟨rfl, rfl, rfl, hcl, hno, hone, hkey⟩ := hq
   rw [wpd] at hno
   intro _
   obtain ⟨l, f, hl, hcap, hlen, hs', hfc, hfv⟩ := hs.own_inv
   subst hs'
   obtain ⟨_, hesz, htok⟩ := hR.blk _ _ _ _ hl hget
   have htok := htok rfl
   have hvers : ∀ ver l', ρ t ver = some l' → ver ≤ m ∧ l'.esz = ti.size := fun ver l' h => ⟨(hR.blk _ _ _ _ h hget).1, (hR.blk _ _ _ _ h hget).2.1⟩
   have hnone : ρ t (m + n) = none := by
    cases hx : ρ t (m + n) with
    | none => rfl
    | some l' => have := (hvers _ _ hx).1; omega
   have hfrz : ∀ i v, ρ.cell l.block i = some v → i < m * ti.size := by
    intro i v h
    have := hR.fz.sep _ _ _ _ _ _ hl h hget
    have h2 : i < m * l.esz := this
    rw [hesz] at h2
    exact h2
   have hmul : (m + n) * ti.size = m * ti.size + n * ti.size := Nat.add_mul _ _ _
   by_cases hroom : m + n ≤ l.cap
   ·obtain ⟨vs, c1, c2⟩ := hnew w rfl
    have hvl : vs.toList.length = n * ti.size := by have := c2.1; omega
    have hNle : m * ti.size + n * ti.size ≤ l.cap * ti.size := by rw [← hmul]; exact Nat.mul_le_mul_right _ hroom
    have hsh := htok.shape
    rw [hesz] at hsh
    have hfree := htok.free
    rw [hesz] at hfree
    have hcells : ∀ j, j < vs.toList.length → (w.cell? ⟨l.block, m * ti.size + j, none⟩).isSome = true := fun j hj => wpv hsh _ (by omega)
    have hfz : ∀ j, j < vs.toList.length → w.frozen? ⟨l.block, m * ti.size + j, none⟩ = false := fun j hj => hfree _ (by omega) (by omega)
    have hst := run_storeCells_cells (P := P) l.block (m * ti.size) vs.toList 0 w (by simpa using hcells) (by simpa using hfz) (wvl c2 hone)
    simp only [Nat.add_zero] at hst
    have hrun := wvr (ty := ty) hT (a := ⟨l.block, 0, none⟩) (len := m) (cap := l.cap) hn c1 hroom (by rw [addr_add, Nat.zero_add]; exact hst)
    obtain ⟨hs1, hs2⟩ := wsh l.block vs.toList (m * ti.size) w
    let ρ' : Ren := ⟨(ρ.add t (m + n) l).loc, fun b i => if b = l.block ∧ m * ti.size ≤ i ∧ i < m * ti.size + n * ti.size then vs.toList[i - m * ti.size]? else ρ.cell b i⟩
    have hcellold : ∀ b i v, ρ.cell b i = some v → ρ'.cell b i = some v := by
     intro b i v h
     show (if b = l.block ∧ m * ti.size ≤ i ∧ i < m * ti.size + n * ti.size then vs.toList[i - m * ti.size]? else ρ.cell b i) = some v
     rw [if_neg ?_]
     ·exact h
     ·rintro ⟨rfl, h1, _⟩
      have := hfrz i v h
      omega
    have hsub : Sub ρ ρ' := ⟨(Ren.sub_add hnone).loc, hcellold⟩
    have hcase : ∀ id ver x, ρ' id ver = some x → (id = t ∧ ver = m + n ∧ x = l) ∨ ρ id ver = some x := fun id ver x h => Ren.add_cases h
    have hself : ρ' t (m + n) = some l := Ren.add_self ρ t (m + n) l
    have hvers' : ∀ ver x, ρ' t ver = some x → x.esz = ti.size := by
     intro ver x h
     rcases hcase _ _ _ h with ⟨_, _, rfl⟩ | h
     ·exact hesz
     ·exact (hvers _ _ h).2
    obtain ⟨q1, q2⟩ := Rel.write (hsame := wkk _ _ _ _) (ρ' := ρ') (w' := w.setCells l.block (m * ti.size) vs.toList) (b1 := .tok (m + n) el ti.size) hR hsub
     (fun id' ver l' h => by
      rcases hcase _ _ _ h with ⟨e1, e2, e3⟩ | h
      ·exact .inr ⟨e1, by rw [e3, hs1]; exact (hR.bnd _ _ _ hl).2, .inr ⟨_, l, hl, by rw [e3]⟩, _, l, hl⟩
      ·exact .inl h) hget hkey (by omega) (fun c hc himg => hs2 c fun e => himg _ _ hl e.symm)
     (by
      intro ver l' hl'
      rcases hcase _ _ _ hl' with ⟨_, e2, e3⟩ | hl'
      ·subst e2; subst e3
       refine ⟨Nat.le_refl _, hesz, fun _ => ⟨by rw [wjg]; exact htok.shape, hroom, fun i hi hi' => ?_, ?_⟩⟩
       ·rw [World.frozen?_setCells]
        rw [hesz] at hi hi'
        exact hfree i (by omega) hi'
       ·rw [wth]
        have := htok.hi
        have h5 : m * l'.esz ≤ (m + n) * l'.esz := Nat.mul_le_mul_right _ (by omega)
        omega
      ·obtain ⟨h1, h2⟩ := hvers _ _ hl'
       exact ⟨by omega, h2, fun h => by omega⟩)
     (fun c hc => by cases hc)
     (by
      intro b i v hv
      have hv' : (if b = l.block ∧ m * ti.size ≤ i ∧ i < m * ti.size + n * ti.size then vs.toList[i - m * ti.size]? else ρ.cell b i) = some v := hv
      split at hv'
      ·rename_i hc
       obtain ⟨rfl, h1, h2⟩ := hc
       refine .inr ⟨m + n, l, hself, rfl, ?_, ?_⟩
       ·have hj : i - m * ti.size < vs.toList.length := by omega
        have p3 := World.cell?_setCells_in l.block vs.toList (m * ti.size) w hcells (i - m * ti.size) hj
        rw [show m * ti.size + (i - m * ti.size) = i by omega] at p3
        rw [List.getElem?_eq_getElem hj] at hv'
        cases hv'
        exact p3
       ·intro ver x hx _
        show i < (m + n) * x.esz
        rw [hvers' _ _ hx]
        omega
      ·exact .inl hv')
     (fun ver l' i v h1 h2 h3 => by
      have h3 : i < m * l'.esz := h3
      rw [(hvers _ _ h1).2] at h3
      rw [World.cell?_setCells_out l.block vs.toList (m * ti.size) w _ (fun _ _ => .inl (by simp only; omega))]
      exact hR.fz.cell _ _ _ h2)
     (fun l' i h => Nat.lt_of_lt_of_le h (Nat.mul_le_mul_right _ (by omega)))
     (fun ver0 l0 _ h0 x v hx _ k hk => by
      have hk : k < (m + n) * l0.esz := hk
      show k < (m + n) * x.esz
      rw [hvers' _ _ hx]
      rw [(hvers _ _ h0).2] at hk
      exact hk)
    refine ⟨_, _, _, _, by rw [wy, hrun]; rfl, rfl, ?_, q1, q2⟩
    refine VR.own (ρ := ρ') hself hroom (by rw [List.length_append, hcl, hnl, hesz, hmul]) (fun i => if i < cs.length then f i else (vs.toList[i - m * ti.size]?).getD undef) (fun i hi => ?_) (fun i v hv => ?_)
    ·rw [List.length_append] at hi
     show (if l.block = l.block ∧ m * ti.size ≤ i ∧ i < m * ti.size + n * ti.size then vs.toList[i - m * ti.size]? else ρ.cell l.block i) = _
     by_cases hlt : i < cs.length
     ·rw [if_neg (by omega), if_pos hlt]
      exact hfc i hlt
     ·rw [if_pos ⟨rfl, by omega, by omega⟩, if_neg hlt, List.getElem?_eq_getElem (by omega)]
      rfl
    ·by_cases hlt : i < cs.length
     ·rw [List.getElem?_append_left hlt] at hv
      rw [if_pos hlt]
      exact (hfv i v hv).mono hsub.noloc
     ·rw [List.getElem?_append_right (by omega)] at hv
      rw [if_neg hlt, ← hcl]
      obtain ⟨v', p1, p2⟩ := c2.get hv
      rw [p1]
      exact VR.reloc (ρ2 := ρ'.noloc) hcellold p2 (hno v (List.mem_of_getElem? hv))
   ·obtain ⟨vs, c1, c2⟩ := hnew w.drew rfl
    have hvl : vs.toList.length = n * ti.size := by have := c2.1; omega
    obtain ⟨olds, d1, d2⟩ := whi (P := P) (o := 0) (off := 0) (n := m * ti.size) (w2 := w.drew) hR (fun i hi => by rw [Nat.zero_add]; exact hfc i hi) hfv (Nat.le_of_eq (by rw [Nat.zero_add]; exact hcl.symm)) rfl
    have e0 : slotsOf cs 0 (m * ti.size) = cs := by rw [← hcl]; simp [slotsOf]
    rw [e0] at d2
    have hrun := wto (ty := ty) hT (base := some ⟨l.block, 0, none⟩) (len := m) (cap := l.cap) (w := w) hn (by simpa [Builtin.firstCells] using d1) c1 (by omega) hb
    have hge := grownCap_ge w (m + n) l.cap el
    have hrel : VRL ρ (cs ++ new) (olds ++ vs).toList := by rw [Array.toList_append]; exact d2.append c2
    have hnl2 : (cs ++ new).length = (m + n) * ti.size := by rw [List.length_append, hcl, hnl, hmul]
    have has : (olds ++ vs).size = (m + n) * ti.size := by
     have := hrel.1
     rw [hnl2] at this
     rw [← Array.length_toList]
     omega
    have hsz : (olds ++ vs ++ Builtin.zeroCells z.cells (grownCap w (m + n) l.cap el - (m + n))).size = grownCap w (m + n) l.cap el * ti.size := by
     rw [Array.size_append, wch, hT.size, has, ← Nat.add_mul]
     congr 1
     omega
    generalize hw2 : w.drew.alloc (.cells (olds ++ vs ++ Builtin.zeroCells z.cells (grownCap w (m + n) l.cap el - (m + n))) el) = w2 at hrun
    have hp : w2.heap = w.heap.push (.cells (olds ++ vs ++ Builtin.zeroCells z.cells (grownCap w (m + n) l.cap el - (m + n))) el (0, 0)) := by rw [← hw2]; rfl
    have hsame : w2.os = w.os ∧ w2.output = w.output := by rw [← hw2]; exact ⟨rfl, rfl⟩
    have hget2 : w2.heap[w.heap.size]? = some (.cells (olds ++ vs ++ Builtin.zeroCells z.cells (grownCap w (m + n) l.cap el - (m + n))) el (0, 0)) := by rw [hp]; simp
    have hsz2 : w2.heap.size = w.heap.size + 1 := by rw [hp]; simp
    let L : Loc := ⟨w.heap.size, grownCap w (m + n) l.cap el, ti.size⟩
    let ρ' : Ren := ⟨(ρ.add t (m + n) L).loc, fun b i => if b = w.heap.size ∧ i < (m + n) * ti.size then (olds ++ vs)[i]? else ρ.cell b i⟩
    have hcellold : ∀ b i v, ρ.cell b i = some v → ρ'.cell b i = some v := by
     intro b i v h
     have := hR.fz.lt h
     show (if b = w.heap.size ∧ i < (m + n) * ti.size then (olds ++ vs)[i]? else ρ.cell b i) = some v
     rw [if_neg (by omega)]
     exact h
    have hsub : Sub ρ ρ' := ⟨(Ren.sub_add hnone).loc, hcellold⟩
    have hcase : ∀ id ver x, ρ' id ver = some x → (id = t ∧ ver = m + n ∧ x = L) ∨ ρ id ver = some x := fun id ver x h => Ren.add_cases h
    have hself : ρ' t (m + n) = some L := Ren.add_self ρ t (m + n) L
    have hvers' : ∀ ver x, ρ' t ver = some x → x.esz = ti.size := by
     intro ver x h
     rcases hcase _ _ _ h with ⟨_, _, rfl⟩ | h
     ·rfl
     ·exact (hvers _ _ h).2
    obtain ⟨q1, q2⟩ := Rel.write (hsame := hsame) (ρ' := ρ') (w' := w2) (b1 := .tok (m + n) el ti.size) hR hsub
     (fun id' ver l' h => by
      rcases hcase _ _ _ h with ⟨e1, e2, e3⟩ | h
      ·exact .inr ⟨e1, by rw [e3, hsz2]; exact Nat.lt_succ_self _, .inl (by rw [e3]; exact Nat.le_refl _), _, l, hl⟩
      ·exact .inl h) hget hkey (by omega) (fun c hc _ => by rw [hp, Array.getElem?_push, if_neg (by omega)])
     (by
      intro ver l' hl'
      rcases hcase _ _ _ hl' with ⟨_, e2, e3⟩ | hl'
      ·subst e2; subst e3
       refine ⟨Nat.le_refl _, rfl, fun _ => ⟨by simp only [World.shape?, L, hget2, hsz], hge, fun i _ _ => ?_, ?_⟩⟩
       ·simp only [World.frozen?, L, hget2]
        simp
       ·simp only [hiOf, L, hget2]
        exact Nat.zero_le _
      ·obtain ⟨h1, h2⟩ := hvers _ _ hl'
       exact ⟨by omega, h2, fun h => by omega⟩)
     (fun c hc => by cases hc)
     (by
      intro b i v hv
      have hv' : (if b = w.heap.size ∧ i < (m + n) * ti.size then (olds ++ vs)[i]? else ρ.cell b i) = some v := hv
      split at hv'
      ·rename_i hc
       obtain ⟨rfl, h1⟩ := hc
       refine .inr ⟨m + n, L, hself, rfl, ?_, ?_⟩
       ·simp only [World.cell?, hget2]
        rw [if_neg (by simp), Array.getElem?_append_left (by omega)]
        exact hv'
       ·intro ver x hx _
        show i < (m + n) * x.esz
        rw [hvers' _ _ hx]
        exact h1
      ·exact .inl hv')
     (fun ver l' i v h1 h2 h3 => by
      rw [wwj hp ⟨l'.block, i, none⟩ (hR.fz.lt h2)]
      exact hR.fz.cell _ _ _ h2)
     (fun l' i h => Nat.lt_of_lt_of_le h (Nat.mul_le_mul_right _ (by omega)))
     (fun ver0 l0 _ h0 x v hx _ k hk => by
      have hk : k < (m + n) * l0.esz := hk
      show k < (m + n) * x.esz
      rw [hvers' _ _ hx]
      rw [(hvers _ _ h0).2] at hk
      exact hk)
    refine ⟨_, _, _, _, by rw [wy, hrun]; rfl, rfl, ?_, q1, q2⟩
    refine VR.own (ρ := ρ') (l := L) hself hge hnl2 (fun i => ((olds ++ vs)[i]?).getD undef) (fun i hi => ?_) (fun i v hv => ?_)
    ·show (if w.heap.size = w.heap.size ∧ i < (m + n) * ti.size then (olds ++ vs)[i]? else ρ.cell w.heap.size i) = _
     rw [if_pos ⟨rfl, by omega⟩, Array.getElem?_eq_getElem (by omega)]
     rfl
    ·obtain ⟨v', p1, p2⟩ := hrel.get hv
     have p3 : (olds ++ vs)[i]? = some v' := by rw [Array.getElem?_toList] at p1; exact p1
     rw [p3]
     have hi := wgh hv
     by_cases hlt : i < cs.length
     ·rw [List.getElem?_append_left hlt] at hv
      have := hfv i v hv
      have e1 : v' = f i := by
       have h1 := whi (P := P) (o := 0) (off := 0) (n := m * ti.size) (w2 := w.drew) hR (fun i hi => by rw [Nat.zero_add]; exact hfc i hi) hfv (by omega) rfl
       have h2 := run_loadCells (P := P) w.drew ⟨l.block, 0, none⟩ (m * ti.size) (fun j => f j) (by
        intro j hj
        rw [addr_add, Nat.zero_add]
        have := hR.fz.cell _ _ _ (hfc j (by omega))
        exact this)
       rw [h2] at d1
       cases d1
       rw [Array.getElem?_append_left (by simp; omega)] at p3
       simp only [List.getElem?_toArray, List.getElem?_map] at p3
       rw [List.getElem?_range (by omega)] at p3
       simpa using p3.symm
      rw [e1]
      exact this.mono hsub.noloc
     ·rw [List.getElem?_append_right (by omega)] at hv
      exact VR.reloc (ρ2 := ρ'.noloc) hcellold p2 (hno v (List.mem_of_getElem? hv))
 ·trivial
end
end Go.Den
namespace Go.Den
noncomputable section
variable {P : Program}
theorem wdab {ρ : Ren} {B : Nat} {H : AH} {w : World} {s : Sem Next} {fresh : Nat} {v : Value} : ResOK P ρ B H w s fresh (effV v none) := trivial
theorem weab {ρ : Ren} {a : Addr} {len c : Nat} {v : Value} (h : VR ρ (.slice (some a) len (c + 1)) v) : ∃ a', v = .slice (some a') len c := by
 cases h with
 | flat h => simp [Go.Den.flat] at h
 | sliceExact h => exact ⟨_, rfl⟩
 | sliceNo => exact ⟨_, rfl⟩
theorem wqx {ρ : Ren} {B : Nat} {H : AH} {w : World} (hR : Rel ρ B H w) {at_ : Array TypeId} {ty elem : TypeId} {ti : TypeInfo} {z : Value} (hT : AppTys P at_ elem ti z) {fresh : Nat} {s s' x' : Value} (hs : VR ρ s s') (hn : (Builtin.lenOf x').run P w = .ok 0 w)
  (hnew : (Builtin.firstCells ti.size 0 x').run P w = .ok #[] w) : ResOK P ρ B H w (wvc (Builtin.append_ at_ ty #[s', x'])) fresh (wls H ti.size s) := by
 have fin : ∀ (a : Addr) (len c : Nat), s' = .slice (some a) len c → len ≤ c → (wvc (Builtin.append_ at_ ty #[s', x'])).run P w = .ok (.value s') w := by
  intro a len c e h
  subst e
  have := wvr (ty := ty) hT (a := a) (len := len) (cap := c) (w' := w) hn hnew (by omega) (by simp [storeCells])
  rw [wy, this]
  rfl
 have out : (wvc (Builtin.append_ at_ ty #[s', x'])).run P w = .ok (.value s') w → ResOK P ρ B H w (wvc (Builtin.append_ at_ ty #[s', x'])) fresh (.eff s H) :=
  fun h _ => ⟨_, s', w, ρ, h, rfl, hs, hR, .refl ρ H w⟩
 unfold wls
 split
 ·refine out ?_
  rw [hs.of_flat rfl]
  obtain ⟨st, xt, d, h1, h2, h3, h4, h5⟩ := hT.ex
  rw [wy]
  rcases h5 with ⟨e2, rfl⟩ | rfl <;> simp [Builtin.append_, h1, h3, wz h2, whc hT.info, hn, hnew, wz h4]
 ·rename_i a len
  cases hq : wph ti.size a H ((len + 1) * ti.size) with
  | false => rw [cond_false]; trivial
  | true =>
   rw [cond_true]
   obtain ⟨l, g1, g2⟩ := hs.slice_inv (.inl (by omega))
   obtain ⟨r1, r2, r3, r4⟩ := wii hR hq g1
   exact out (fin _ _ _ g2 (by simp only [capOf, r1]; omega))
 ·rename_i a len c
  cases hq : Nat.ble len c with
  | false => rw [cond_false]; trivial
  | true =>
   rw [cond_true]
   have hq' := Nat.le_of_ble_eq_true hq
   obtain ⟨a', g2⟩ := weab hs
   exact out (fin _ _ _ g2 hq')
 ·unfold wrr
  split
  ·rename_i q hq
   refine out ?_
   rcases hs.row_inv hq with ⟨a', c', h1, h2, h3⟩ | ⟨b, o, c', f, g1, g0, g2, g3⟩
   ·cases a' with
    | none =>
     rw [h3]
     obtain ⟨st, xt, d, h1, h2, h3, h4, h5⟩ := hT.ex
     rw [wy]
     rcases h5 with ⟨e2, rfl⟩ | rfl <;> simp [Builtin.append_, h1, h3, wz h2, whc hT.info, hn, hnew, wz h4]
    | some a' => exact fin _ _ _ h3 (Nat.zero_le _)
   ·exact fin _ _ _ g1 g0
  ·trivial
theorem wphb {ρ : Ren} {B : Nat} {H : AH} {w : World} (hR : Rel ρ B H w) : Rel ρ B H w.drew :=
 ⟨fun id ver l b h1 h3 => (hR.blk id ver l b h1 h3).keep (.refl ρ) rfl, hR.wf, hR.low, hR.sep, hR.bnd, hR.base, ⟨hR.fz.cell, hR.fz.sep⟩⟩
theorem wtu {own : Bool} {ρ : Ren} {B : Nat} {H : AH} {w : World} (hR : Rel ρ B H w) {at_ : Array TypeId} {ty elem : TypeId} {ti : TypeInfo} {z : Value} (hT : AppTys P at_ elem ti z) {fresh n len c : Nat} {a : Addr} {s' x' : Value} {new : List Value}
  (hs : VR ρ (.slice (some a) len (c + 1)) s') (hlc : len ≤ c) (hpos : 0 < n) (hn : (Builtin.lenOf x').run P w = .ok n w) (hnl : new.length = n * ti.size) (hnew : ∀ w2 : World, w2.heap = w.heap → ∃ cs : Array Value, (Builtin.firstCells ti.size n x').run P w2 = .ok cs w2 ∧ VRL ρ new cs.toList)
  (hb : roomy (len + n) ti.bytes = true) : ResOK P ρ B H w (wvc (Builtin.append_ at_ ty #[s', x'])) fresh (wik own H elem ti.size (.slice (some a) len (c + 1)) a len c n new) := by
 unfold wik
 cases hq : Nat.ble (len + n) c with
 | true =>
  rw [cond_true]
  have hroom : len + n ≤ c := Nat.le_of_ble_eq_true hq
  cases hst : wkc H ⟨a.block, a.off + len * ti.size, a.spot⟩ new with
  | none => exact wdab
  | some H' =>
   intro _
   rcases Nat.eq_zero_or_pos c with hc0 | hc0
   ·have hn0 : n = 0 := by omega
    have hl0 : len = 0 := by omega
    subst hc0; subst hn0; subst hl0
    exact absurd hpos (by omega)
   ·obtain ⟨l, g1, g2⟩ := hs.slice_inv (.inr (by omega))
    subst g2
    simp only [capOf]
    obtain ⟨cs, c1, c2⟩ := hnew w rfl
    obtain ⟨r1, r2, r3⟩ := wys (P := P) hR hst (l := l) g1 c2
    have hrun := wvr (ty := ty) hT (a := ⟨l.block, a.off, none⟩) (len := len) (cap := c) hn c1 hroom (by rw [addr_add]; exact r1)
    exact ⟨_, _, _, ρ, by rw [wy, hrun]; rfl, rfl, .sliceExact g1, r2, r3⟩
 | false =>
  rw [cond_false]
  have hgrow : c < len + n := by
   rcases Nat.lt_or_ge c (len + n) with h | h
   ·exact h
   ·rw [Nat.ble_eq_true_of_le h] at hq; cases hq
  obtain ⟨cs, c1, c2⟩ := hnew w.drew rfl
  obtain ⟨a0, g0⟩ := weab hs
  split
  ·rw [g0]
   have hrun := wto (ty := ty) hT (base := some a0) (len := 0) (cap := c) (w := w) (old := #[]) hn (by simpa [Builtin.firstCells] using run_loadCells (P := P) w.drew a0 0 (fun _ => undef) (by intro j hj; omega)) c1 (by omega) hb
   rw [Nat.zero_add] at hrun
   simp only [Array.empty_append] at hrun
   exact wsn hR hT.size hT.pos hnl (grownCap_ge _ _ _ _) c2 (by rw [wy, hrun]; rfl)
  ·rename_i len
   obtain ⟨l, g1, g2⟩ := hs.slice_inv (.inl (by omega))
   split
   ·rename_i old hold
    obtain ⟨d1, d2⟩ := wzs (P := P) (wphb hR) hs hold
    obtain ⟨olds, d3, d4⟩ := d2 w.drew rfl
    subst g2
    simp only [capOf]
    have hrun := wto (ty := ty) hT (base := some ⟨l.block, a.off, none⟩) (len := len + 1) (cap := c) (w := w) hn (by simpa [capOf] using d3) c1 (by omega) hb
    refine wsn hR hT.size hT.pos (by rw [List.length_append, d1, hnl]; simp [Nat.add_mul]) (grownCap_ge _ _ _ _) (arr := olds ++ cs) (by rw [Array.toList_append]; exact d4.append c2) (by rw [wy, hrun]; rfl)
   ·trivial
theorem wcq {ρ : Ren} {x x' : Value} {n size : Nat} (hx : VR ρ x x') (h0 : lenA x = some n) (w : World) : (Builtin.firstCells size 0 x').run P w = .ok #[] w := by
 have hl : ∀ a : Addr, (loadCells a 0).run P w = .ok #[] w := fun a => by simpa using run_loadCells (P := P) w a 0 (fun _ => undef) (by intro j hj; omega)
 unfold lenA at h0
 split at h0
 ·rename_i b m c
  cases b with
  | none => rw [hx.of_flat rfl]; simp [Builtin.firstCells]
  | some b => obtain ⟨_, _, rfl⟩ := hx.slice_len; simp [Builtin.firstCells, hl]
 ·rw [hx.string_inv]; simp [Builtin.firstCells]
 ·unfold lenAF at h0
  split at h0
  ·rename_i q hq
   obtain ⟨a', _, rfl⟩ := hx.row_len hq
   cases a' <;> simp [Builtin.firstCells, hl]
  ·cases h0
theorem wwpb {own : Bool} {ρ : Ren} {B : Nat} {H : AH} {w : World} (hR : Rel ρ B H w) {at_ : Array TypeId} {ty elem : TypeId} {ti : TypeInfo} {z : Value} (hT : AppTys P at_ elem ti z) {fresh : Nat} {s s' x x' : Value} (hs : VR ρ s s') (hx : VR ρ x x') :
  ResOK P ρ B H w (wvc (Builtin.append_ at_ ty #[s', x'])) fresh (appA own H elem ti.size ti.bytes s x) := by
 unfold appA
 split
 ·rename_i h0
  refine wqx hR hT hs (wur hx h0 w) ?_
  have hl : ∀ a : Addr, (loadCells a 0).run P w = .ok #[] w := fun a => by simpa using run_loadCells (P := P) w a 0 (fun _ => undef) (by intro j hj; omega)
  exact wcq hx h0 w
 ·rename_i n hn0 h0
  split
  ·rename_i new hnew
   obtain ⟨e1, e2⟩ := wzs (P := P) hR hx hnew
   have hn := wur (P := P) hx h0 w
   unfold wns
   split
   ·cases hq : roomy n ti.bytes with
    | false => rw [cond_false]; trivial
    | true =>
     rw [cond_true]
     rw [hs.of_flat rfl]
     obtain ⟨cs, c1, c2⟩ := e2 w.drew rfl
     have hpos : 0 < n := by
      cases n with
      | zero => exact absurd rfl hn0
      | succ n => omega
     have hrun := wto (ty := ty) hT (base := none) (len := 0) (cap := 0) (w := w) (old := #[]) hn (by simp [Builtin.firstCells]) c1 (by omega) (by rw [Nat.zero_add]; exact hq)
     rw [Nat.zero_add] at hrun
     simp only [Array.empty_append] at hrun
     exact wsn hR hT.size hT.pos e1 (grownCap_ge _ _ _ _) c2 (by rw [wy, hrun]; rfl)
   ·rename_i a len
    cases hq : roomy (len + n) ti.bytes with
    | false => rw [cond_false]; trivial
    | true => rw [cond_true]; exact wox hR hT hs hn e1 e2 hq
   ·rename_i a len c
    cases hq : (roomy (len + n) ti.bytes && Nat.ble len c) with
    | false => rw [cond_false]; trivial
    | true =>
     rw [cond_true]
     simp only [Bool.and_eq_true, Nat.ble_eq] at hq
     have hpos : 0 < n := by
      cases n with
      | zero => exact absurd rfl hn0
      | succ n => omega
     exact wtu hR hT hs hq.2 hpos hn e1 e2 hq.1
   ·unfold wghb
    split
    ·rename_i q hq0
     rw [wio hq0] at hs
     cases hq : roomy (q.2.1 + n) ti.bytes with
     | false => rw [cond_false]; trivial
     | true =>
      rw [cond_true]
      have hpos : 0 < n := by
       cases n with
       | zero => exact absurd rfl hn0
       | succ n => omega
      exact wpx hR hT hs hpos hn (by rw [wwjb]; exact e1) (fun w2 h => by
       obtain ⟨cs, c1, c2⟩ := e2 w2 h
       exact ⟨cs, c1, wat _ _ c2⟩) hq
    ·trivial
  ·trivial
 ·trivial
theorem wwr {a : Act} {o : Oper} {c : Call} {x y : Operand} {b : Builtin} (ho : o.op = .call c) (hcal : c.callee = .builtin b) (hargs : c.args.toList = [x, y]) {f : Array TypeId → TypeId → Array Value → Sem Value}
  (hb : ∀ at_ t cs vs, builtin b at_ t cs vs = wvc (f at_ t vs)) : execOp a.eval o = wvc (f c.argTypes o.type #[a.eval x, a.eval y]) := by
 obtain ⟨callee, args, at_⟩ := c
 simp only at hcal hargs
 subst hcal
 have hargs' : args = #[x, y] := by apply Array.ext'; simpa using hargs
 subst hargs'
 simp only [execOp, ho, resolve]
 simp [invoke, hb]
theorem wxjb {ρ : Ren} {B : Nat} {H : AH} {w : World} (hR : Rel ρ B H w) {at_ : Array TypeId} {ty st elem : TypeId} {ti : TypeInfo} (h1 : at_[0]? = some st) (h2 : tyU P st = some (.slice elem)) (h3 : wec P elem = some ti) {fresh : Nat} {d d' x x' : Value} (hd : VR ρ d d') (hx : VR ρ x x') :
  ResOK P ρ B H w (wvc (Builtin.copy_ at_ ty #[d', x'])) fresh (wos H ti.size d x) := by
 unfold wos
 split
 ·rename_i a dl dc xl hxl
  have hn := wur (P := P) hx hxl w
  split
  ·rename_i hmin
   obtain ⟨a', c', g⟩ := hd.slice_len
   subst g
   intro _
   have hmin' : Nat.min xl dl = 0 := hmin
   have hfc := wcq (P := P) (size := ti.size) hx hxl w
   refine ⟨.value (.int .i64 0), .int .i64 0, w, ρ, ?_, rfl, .flat rfl, hR, .refl ρ H w⟩
   rw [wy]
   simp [Builtin.copy_, h1, wz h2, whc h3, hn, hmin', hfc, storeCells, goInt]
  ·rename_i n hn0
   split
   ·rename_i cs hcs
    obtain ⟨e1, e2⟩ := wzs (P := P) hR hx hcs
    cases hst : wkc H a cs with
    | none => exact wdab
    | some H' =>
     intro _
     have hpos : 0 < dl := by
      rcases Nat.eq_zero_or_pos dl with h | h
      ·exact absurd (show Nat.min xl dl = 0 by rw [h]; exact Nat.min_zero xl) hn0
      ·exact h
     obtain ⟨l, g1, g2⟩ := hd.slice_inv (.inl hpos)
     subst g2
     obtain ⟨arr, c1, c2⟩ := e2 w rfl
     obtain ⟨r1, r2, r3⟩ := wys (P := P) hR hst g1 c2
     refine ⟨.value (.int .i64 (Nat.min xl dl : Nat)), .int .i64 (Nat.min xl dl : Nat), _, ρ, ?_, rfl, .flat rfl, r2, r3⟩
     rw [wy]
     simp [Builtin.copy_, h1, wz h2, whc h3, hn, c1, r1, goInt]
   ·trivial
 ·rename_i xl hxl
  intro _
  have hn := wur (P := P) hx hxl w
  have hfc := wcq (P := P) (size := ti.size) hx hxl w
  refine ⟨.value (.int .i64 0), .int .i64 0, w, ρ, ?_, rfl, .flat rfl, hR, .refl ρ H w⟩
  rw [wy, hd.of_flat rfl]
  simp [Builtin.copy_, h1, wz h2, whc h3, hn, hfc, goInt]
 ·trivial
theorem wib {α β : Type} (x : Sem α) (f : α → Sem β) : wo P (x >>= f) = (wo P x).bind fun a => wo P (f a) := by
 show wo P (x.bind f) = _
 induction x with
 | pure a => rfl
 | program k ih => exact ih P
 | mark m k ih => exact ih
 | choose q k ih =>
  simp only [Sem.bind, wo]
  split
  ·exact ih 0
  ·rfl
 | _ => rfl
def Keys (es : List (Value × Value)) (ms : List MapEntry) : Prop := ms.length = es.length ∧ ∀ (i : Nat) (e : Value × Value) (m : MapEntry), es[i]? = some e → ms[i]? = some m → m.key = e.1
theorem Keys.cons {e : Value × Value} {es : List (Value × Value)} {ms : List MapEntry} (h : Keys (e :: es) ms) : ∃ m r, ms = m :: r ∧ m.key = e.1 ∧ Keys es r := by
 cases ms with
 | nil => have := h.1; simp at this
 | cons m r => exact ⟨m, r, rfl, h.2 0 e m rfl rfl, by have := h.1; simpa using this, fun i e' m' a b => h.2 (i + 1) e' m' (by simpa using a) (by simpa using b)⟩
def Found (j : Nat) (es : List (Value × Value)) (ms : List MapEntry) : Option (Nat × Value) → Option (Nat × Value) → Prop
 | none, none => True
 | some (i, v), some (i', v') => i' = i ∧ ∃ (k : Nat) (e : Value × Value) (m : MapEntry), i = j + k ∧ es[k]? = some e ∧ ms[k]? = some m ∧ v = e.2 ∧ v' = m.val
 | _, _ => False
theorem Found.step {j : Nat} {e : Value × Value} {m : MapEntry} {es : List (Value × Value)} {ms : List MapEntry} {r r' : Option (Nat × Value)} (h : Found (j + 1) es ms r r') : Found j (e :: es) (m :: ms) r r' := by
 cases r with
 | none => cases r' with
  | none => trivial
  | some p => exact h
 | some p => cases r' with
  | none => exact h
  | some p' =>
   obtain ⟨h1, k, x, y, h2, h3, h4, h5, h6⟩ := h
   exact ⟨h1, k + 1, x, y, by omega, by simpa using h3, by simpa using h4, h5, h6⟩
theorem now_rel (kind : TypeDesc) (k : Value) : ∀ (es : List (Value × Value)) (ms : List MapEntry) (j : Nat), Keys es ms →
  (Instr.findNow kind k (entriesOf es) j = none ∧ Instr.findNow kind k ms j = none) ∨
  ∃ r r', Instr.findNow kind k (entriesOf es) j = some r ∧ Instr.findNow kind k ms j = some r' ∧ Found j es ms r r' := by
 intro es
 induction es with
 | nil =>
  intro ms j h
  have : ms = [] := by have := h.1; simpa using this
  subst this
  exact .inr ⟨none, none, rfl, rfl, trivial⟩
 | cons e es ih =>
  intro ms j h
  obtain ⟨m, r, rfl, hk, hr⟩ := h.cons
  simp only [entriesOf, Instr.findNow, hk]
  cases hq : Instr.sameNow kind k e.1 with
  | none => exact .inl ⟨rfl, rfl⟩
  | some b =>
   cases b with
   | true => exact .inr ⟨_, _, rfl, rfl, rfl, 0, e, m, rfl, rfl, rfl, rfl, rfl⟩
   | false =>
    rcases ih r (j + 1) hr with ⟨h1, h2⟩ | ⟨x, y, h1, h2, h3⟩
    ·exact .inl ⟨h1, h2⟩
    ·exact .inr ⟨x, y, h1, h2, h3.step⟩
theorem wyjb (kt : TypeId) (k : Value) : ∀ (es : List (Value × Value)) (ms : List MapEntry) (j : Nat), Keys es ms → ∀ r, wo P (Instr.findAsking kt k (entriesOf es) j) = some r →
  ∃ r', wo P (Instr.findAsking kt k ms j) = some r' ∧ Found j es ms r r' := by
 intro es
 induction es with
 | nil =>
  intro ms j h r hr
  have : ms = [] := by have := h.1; simpa using this
  subst this
  cases hr
  exact ⟨none, rfl, trivial⟩
 | cons e es ih =>
  intro ms j h r hr
  obtain ⟨m, rest, rfl, hk, hrest⟩ := h.cons
  simp only [entriesOf, Instr.findAsking, wib, Option.bind_eq_some_iff] at hr ⊢
  obtain ⟨b, h1, h2⟩ := hr
  rw [hk]
  cases b with
  | true =>
   simp only [if_true] at h2
   cases h2
   exact ⟨_, ⟨true, h1, rfl⟩, rfl, 0, e, m, rfl, rfl, rfl, rfl, rfl⟩
  | false =>
   simp only [Bool.false_eq_true, if_false] at h2
   obtain ⟨r', h3, h4⟩ := ih rest (j + 1) hrest r h2
   exact ⟨r', ⟨false, h1, by simpa using h3⟩, h4.step⟩
theorem wtm {empty : Bool} {kt : TypeId} {k : Value} {es : List (Value × Value)} {ms : List MapEntry} {r : Option (Nat × Value)} (hk : Keys es ms) (h : wjr P empty kt k es = some r) (w : World) :
  ∃ r', (Instr.checkKey empty 10000 kt k).run P w = .ok () w ∧ (Instr.findKey kt k ms).run P w = .ok r' w ∧ Found 0 es ms r r' := by
 unfold wjr at h
 rw [wib] at h
 obtain ⟨u, h1, h2⟩ := Option.bind_eq_some_iff.1 h
 have hck := wvg _ _ h1 w
 unfold Instr.findKey at h2 ⊢
 rw [wib] at h2
 obtain ⟨d, h3, h4⟩ := Option.bind_eq_some_iff.1 h2
 have hd := wvg _ _ h3 w
 rcases now_rel d k es ms 0 hk with ⟨n1, n2⟩ | ⟨x, y, n1, n2, n3⟩
 ·rw [n1] at h4
  obtain ⟨r', a1, a2⟩ := wyjb (P := P) kt k es ms 0 hk r h4
  exact ⟨r', hck, by simp only [Sem.run_bind, hd, Result.andThen_ok, n2]; exact wvg _ _ a1 w, a2⟩
 ·rw [n1] at h4
  cases h4
  exact ⟨y, hck, by simp only [Sem.run_bind, hd, Result.andThen_ok, n2]; rfl, n3⟩
theorem wbi {w : World} {r : Nat} {ms : Array MapEntry} {clock : Nat} (h : w.heap[r]? = some (.map ms clock)) : (getObj r).run P w = .ok (.map ms clock) w := by simp [getObj, Sem.run, h]
theorem BRel.keys {ρ : Ren} {w : World} {es : List (Value × Value)} {ver : Nat} {l : Loc} (h : BRel ρ w (.map es) ver l) : ∃ ms clock, w.heap[l.block]? = some (.map ms clock) ∧ Keys es ms.toList ∧
  ∀ (i : Nat) (e : Value × Value) (m : MapEntry), es[i]? = some e → ms.toList[i]? = some m → m.key = e.1 ∧ flat e.1 = true ∧ VR ρ e.2 m.val := by
 obtain ⟨_, ms, clock, h1, h2, h3⟩ := h
 exact ⟨ms, clock, h1, ⟨by simpa using h2, fun i e m a b => (h3 i e m a (by simpa using b)).1⟩, fun i e m a b => h3 i e m a (by simpa using b)⟩
theorem wxpb {ρ : Ren} {v v' : Value} (h : VR ρ v v') (ok b : Bool) : VR ρ (okd ok v b) (if ok then .tuple #[v', .bool b] else v') := by
 cases ok
 ·exact h
 ·exact .tuple_mk (.cons h (.cons (.flat rfl) (.nil ρ)))
theorem wzjb {ρ : Ren} {B : Nat} {H : AH} {w : World} (hR : Rel ρ B H w) {e : Env} {a : Act} {fresh : Nat} {o : Oper} {t kt et : TypeId} {m k : Operand} {ok : Bool} {ti : TypeInfo} {z : Value} (ho : o.op = .lookup t m k ok) (ht : tyU P t = some (.map kt et)) (hti : wec P et = some ti)
  (hz : wwf ti = some z) (hE : ERel ρ e a) (hk : wsf o.op = true) (hops : ∀ x ∈ o.op.operands.toList, wic x = true) : ResOK P ρ B H w (execOp a.eval o) fresh (wgx P e H kt z ok (evl e m) (evl e k) o) := by
 have hm : wic m = true := hops m (by rw [ho]; simp [Op.operands])
 have hkk : wic k = true := hops k (by rw [ho]; simp [Op.operands])
 have hvm := whb hE m hm
 have hvk := whb hE k hkk
 obtain ⟨z1, z2⟩ := wqe hz
 unfold wgx
 split
 ·rename_i r h0
  rw [h0] at hvm
  split
  ·rename_i es hes
   cases hf : flat (evl e k) with
   | false => rw [cond_false]; trivial
   | true =>
    rw [cond_true]
    obtain ⟨l, g1, g2⟩ := hvm.map_inv
    obtain ⟨ms, clock, b1, b2, b3⟩ := (hR.blk _ _ _ _ g1 hes).keys
    have hkv : a.eval k = evl e k := hvk.of_flat hf
    have hem : ms.isEmpty = es.isEmpty := by
     have := b2.1
     cases es with
     | nil => simp at this; simp [this]
     | cons x y => simp at this; cases hms : ms.isEmpty with
      | false => rfl
      | true => simp at hms; rw [hms] at this; simp at this
    unfold wxp
    split
    ·rename_i i v hfind
     obtain ⟨r', c1, c2, c3⟩ := wtm b2 hfind w
     cases r' with
     | none => exact c3.elim
     | some p =>
      obtain ⟨d1, kk, x, y, d2, d3, d4, d5, d6⟩ := c3
      obtain ⟨i', v'⟩ := p
      simp only at d1 d6
      refine .val (v' := if ok then .tuple #[v', .bool true] else v') ?_ ?_
      ·simp only [execOp, ho, g2, hkv]
       simp [Instr.lookup, wz ht, wbi b1, hem, c1, c2]
      ·rw [d5, d6]
       exact wxpb (b3 kk x y d3 d4).2.2 ok true
    ·rename_i hfind
     obtain ⟨r', c1, c2, c3⟩ := wtm b2 hfind w
     cases r' with
     | some p => exact c3.elim
     | none =>
      refine .val (v' := if ok then .tuple #[z, .bool false] else z) ?_ (wxpb (.flat z2) ok false)
      simp only [execOp, ho, g2, hkv]
      simp [Instr.lookup, wz ht, wbi b1, hem, c1, c2, wpo hti z1]
    ·trivial
  ·trivial
 ·exact wmc hk hE hops
theorem wum {w : World} {r : Nat} {ms : Array MapEntry} {clock : Nat} (h : w.heap[r]? = some (.map ms clock)) (o : Obj) : (setObj r o).run P w = .ok () { w with heap := w.heap.setIfInBounds r o } := by simp [setObj, Sem.run, h]
theorem wuo {ρ : Ren} {B : Nat} {H : AH} {w : World} (hR : Rel ρ B H w) {r : Nat} {l : Loc} {es es' : List (Value × Value)} {ms' : Array MapEntry} {clock' : Nat} (hl : ρ r 0 = some l) (hes : H.get r = some (.map es)) (hid : wmb r = true)
  (hlen : ms'.size = es'.length) (hrel : ∀ (i : Nat) (e : Value × Value) (m : MapEntry), es'[i]? = some e → ms'[i]? = some m → m.key = e.1 ∧ flat e.1 = true ∧ VR ρ e.2 m.val) :
  Rel ρ B (H.set r (.map es')) { w with heap := w.heap.setIfInBounds l.block (.map ms' clock') } ∧ Ext ρ H w ρ (H.set r (.map es')) { w with heap := w.heap.setIfInBounds l.block (.map ms' clock') } := by
 have hlt := (hR.bnd _ _ _ hl).2
 refine Rel.write hR (.refl ρ) (fun _ _ _ h => .inl h) hes hid (by simp) ?_ ?_ (fun c hc => by cases hc) (fun _ _ _ h => .inl h) ?_ (fun _ _ h => h) (fun _ _ _ _ _ _ _ _ _ h => h)
 ·intro b hb himg
  have : ¬ l.block = b := himg _ _ hl
  simp [this]
 ·intro ver l' hl'
  have hv : ver = 0 := (hR.blk _ _ _ _ hl' hes).1
  subst hv
  have : l' = l := by rw [hl] at hl'; exact (Option.some.inj hl').symm
  subst this
  exact ⟨rfl, ms', clock', by simp [hlt], hlen, hrel⟩
 ·intro ver l' i v hl' hv _
  exact (hR.fz.sep _ _ _ _ _ _ hl' hv hes).elim
theorem VR.flz {ρ : Ren} {v v' : Value} (h : VR ρ v v') : VR ρ (flz v) v' := by
 unfold Go.Den.flz
 cases hq : asFO v with
 | none => exact h
 | some p =>
  obtain ⟨id, e, vs⟩ := p
  have hv := wio hq
  subst hv
  obtain ⟨l, f, h1, h2, h3, h4, h5, h6⟩ := h.own_inv
  subst h4
  exact VR.list (a' := ⟨l.block, 0, none⟩) h2 f (fun i hi => by rw [Nat.zero_add]; exact h5 i hi) h6
theorem wakb {ρ : Ren} {B : Nat} {H : AH} {w : World} (hR : Rel ρ B H w) {fresh : Nat} {t kt et : TypeId} {m m' k k' x x' : Value} (ht : tyU P t = some (.map kt et)) (hm : VR ρ m m') (hk : VR ρ k k') (hx : VR ρ x x') {s : Sem Next}
  (hs : s = do Instr.mapUpdate t m' k' x'; pure .skip) : ResOK P ρ B H w s fresh (wjjb P H kt m k x) := by
 subst hs
 unfold wjjb
 split
 ·rename_i r
  split
  ·rename_i es hes
   cases hq : (flat k && wmb r) with
   | false => rw [cond_false]; trivial
   | true =>
    rw [cond_true]
    simp only [Bool.and_eq_true] at hq
    obtain ⟨hf, hid⟩ := hq
    obtain ⟨l, g1, g2⟩ := hm.map_inv
    subst g2
    obtain ⟨ms, clock, b1, b2, b3⟩ := (hR.blk _ _ _ _ g1 hes).keys
    have hkv : k' = k := hk.of_flat hf
    subst hkv
    have hlen : ms.size = es.length := by have := b2.1; simpa using this
    unfold wmv
    split
    ·rename_i i v hfind
     split
     ·rename_i ee hee
      cases hsb : Instr.sameBits 10000 ee.1 k' with
      | false => rw [cond_false]; trivial
      | true =>
       rw [cond_true]
       intro _
       obtain ⟨r', c1, c2, c3⟩ := wtm b2 hfind w
       cases r' with
       | none => exact c3.elim
       | some p =>
        obtain ⟨i', v'⟩ := p
        obtain ⟨d1, kk, e0, m0, d2, d3, d4, d5, d6⟩ := c3
        subst d1
        have hkk : kk = i' := by omega
        subst hkk
        have hm0 : ms[kk]? = some m0 := by simpa using d4
        have hkey : m0.key = ee.1 := by rw [hee] at d3; cases d3; exact (b3 kk ee m0 hee d4).1
        obtain ⟨q1, q2⟩ := wuo (clock' := clock) (es' := es.set kk (k', x)) (ms' := ms.modify kk fun e => { e with key := k', val := x' }) hR g1 hes hid (by simp [hlen]) (by
         intro i e m h1 h2
         rw [List.getElem?_set] at h1
         rw [Array.getElem?_modify] at h2
         by_cases hi : kk = i
         ·subst hi
          rw [if_pos rfl] at h2
          rw [hm0] at h2
          simp only [Option.map_some, Option.some.injEq] at h2
          rw [if_pos rfl] at h1
          split at h1
          ·cases h1; subst h2; exact ⟨rfl, hf, hx⟩
          ·cases h1
         ·rw [if_neg hi] at h1 h2
          exact b3 i e m h1 (by simpa using h2))
        refine ⟨.skip, undef, _, ρ, ?_, rfl, .flat wwg, q1, q2⟩
        have hkeep : (Instr.keyThatStays (((ms[kk]?).map (·.key)).getD k') k').run P w = .ok k' w := by
         rw [hm0]
         show (Instr.keyThatStays m0.key k').run P w = _
         unfold Instr.keyThatStays
         rw [hkey, if_pos hsb]
         rfl
        simp only [Instr.mapUpdate, Sem.run_bind, wz ht, Result.andThen_ok, wbi b1, c1, c2, hkeep, wum b1]
        rfl
     ·trivial
    ·rename_i hfind
     intro _
     obtain ⟨r', c1, c2, c3⟩ := wtm b2 hfind w
     cases r' with
     | some p => exact c3.elim
     | none =>
      obtain ⟨q1, q2⟩ := wuo (clock' := clock + 1) (es' := es ++ [(k', x)]) (ms' := ms.push { key := k', val := x', born := clock }) hR g1 hes hid (by simp [hlen]) (by
       intro i e m h1 h2
       rw [Array.getElem?_push] at h2
       by_cases hi : i = ms.size
       ·rw [if_pos hi] at h2
        cases h2
        rw [hi, hlen, List.getElem?_append_right (Nat.le_refl _)] at h1
        simp at h1
        subst h1
        exact ⟨rfl, hf, hx⟩
       ·rw [if_neg hi] at h2
        have hlt : i < es.length := by
         rcases Nat.lt_or_ge i ms.size with h | h
         ·omega
         ·rw [Array.getElem?_eq_none h] at h2; cases h2
        rw [List.getElem?_append_left hlt] at h1
        exact b3 i e m h1 (by simpa using h2))
      refine ⟨.skip, undef, _, ρ, ?_, rfl, .flat wwg, q1, q2⟩
      simp only [Instr.mapUpdate, Sem.run_bind, wz ht, Result.andThen_ok, wbi b1, c1, c2, wum b1]
      rfl
    ·trivial
  ·trivial
 ·trivial
theorem wfab {ρ : Ren} {B : Nat} {H : AH} {w : World} (hR : Rel ρ B H w) {fresh : Nat} {t kt et : TypeId} {m m' k k' x x' : Value} (ht : tyU P t = some (.map kt et)) (hm : VR ρ m m') (hk : VR ρ k k') (hx : VR ρ x x') {s : Sem Next}
  (hs : s = do Instr.mapUpdate t m' k' x'; pure .skip) : ResOK P ρ B H w s fresh (updA P H kt m k x) := wakb hR ht hm hk hx.flz hs
theorem size_erase {ms : Array MapEntry} {i : Nat} (h : i < ms.size) : (ms.eraseIdxIfInBounds i).size = ms.size - 1 := by
 simp [Array.eraseIdxIfInBounds, h]
theorem wypb {ms : Array MapEntry} {i j : Nat} (h : i < ms.size) : (ms.eraseIdxIfInBounds i)[j]? = if j < i then ms[j]? else ms[j + 1]? := by
 simp only [Array.eraseIdxIfInBounds, h, dif_pos]
 rw [Array.getElem?_eraseIdx]
theorem wzpb {ρ : Ren} {B : Nat} {H : AH} {w : World} (hR : Rel ρ B H w) {fresh : Nat} {t kt et ty : TypeId} {at_ : Array TypeId} {m m' k k' : Value} (h0 : at_[0]? = some t) (ht : tyU P t = some (.map kt et)) (hm : VR ρ m m') (hk : VR ρ k k') :
  ResOK P ρ B H w (wvc (Builtin.delete_ at_ ty #[m', k'])) fresh (delA P H kt m k) := by
 unfold delA
 split
 ·rename_i r
  split
  ·rename_i es hes
   cases hq : (flat k && wmb r) with
   | false => rw [cond_false]; trivial
   | true =>
    rw [cond_true]
    simp only [Bool.and_eq_true] at hq
    obtain ⟨hf, hid⟩ := hq
    obtain ⟨l, g1, g2⟩ := hm.map_inv
    subst g2
    obtain ⟨ms, clock, b1, b2, b3⟩ := (hR.blk _ _ _ _ g1 hes).keys
    have hkv : k' = k := hk.of_flat hf
    subst hkv
    have hlen : ms.size = es.length := by have := b2.1; simpa using this
    have hemp : ms.isEmpty = es.isEmpty := by
     cases es with
     | nil => simp at hlen; simp [hlen]
     | cons a es => simp at hlen; simp [Array.isEmpty, hlen]
    unfold wihb
    split
    ·rename_i i v hfind
     intro _
     obtain ⟨r', c1, c2, c3⟩ := wtm b2 hfind w
     cases r' with
     | none => exact c3.elim
     | some p =>
      obtain ⟨i', v'⟩ := p
      obtain ⟨d1, kk, e0, m0, d2, d3, d4, d5, d6⟩ := c3
      subst d1
      have hkk : kk = i' := by omega
      subst hkk
      have hm0 : ms[kk]? = some m0 := by simpa using d4
      have hkl : kk < ms.size := (Array.getElem?_eq_some_iff.1 hm0).1
      obtain ⟨q1, q2⟩ := wuo (clock' := clock) (es' := es.eraseIdx kk) (ms' := ms.eraseIdxIfInBounds kk) hR g1 hes hid (by rw [size_erase hkl, List.length_eraseIdx, if_pos (by omega), hlen]) (by
       intro i e m h1 h2
       replace h2 : (ms.eraseIdxIfInBounds kk)[i]? = some m := by simpa using h2
       rw [wypb hkl] at h2
       rw [List.getElem?_eraseIdx] at h1
       by_cases hi : i < kk
       ·rw [if_pos hi] at h1 h2; exact b3 i e m h1 (by simpa using h2)
       ·rw [if_neg hi] at h1 h2; exact b3 (i + 1) e m h1 (by simpa using h2))
      refine ⟨.value (.tuple #[]), .tuple #[], _, ρ, ?_, rfl, .flat rfl, q1, q2⟩
      rw [wy]
      simp only [Builtin.delete_, h0, List.getElem?_toArray, List.getElem?_cons_zero, List.getElem?_cons_succ, Sem.run_bind, wz ht, Result.andThen_ok, wbi b1, hemp, c1, c2, wum b1]
      rfl
    ·rename_i hfind
     intro _
     obtain ⟨r', c1, c2, c3⟩ := wtm b2 hfind w
     cases r' with
     | some p => exact c3.elim
     | none =>
      obtain ⟨q1, q2⟩ := wuo (clock' := clock) (es' := es) (ms' := ms) hR g1 hes hid hlen (fun i e m h1 h2 => b3 i e m h1 (by simpa using h2))
      refine ⟨.value (.tuple #[]), .tuple #[], _, ρ, ?_, rfl, .flat rfl, q1, q2⟩
      rw [wy]
      simp only [Builtin.delete_, h0, List.getElem?_toArray, List.getElem?_cons_zero, List.getElem?_cons_succ, Sem.run_bind, wz ht, Result.andThen_ok, wbi b1, hemp, c1, c2, wum b1]
      rfl
    ·trivial
  ·trivial
 ·trivial
end
end Go.Den
namespace Go.Den
noncomputable section
variable {P : Program}
theorem wvo {w : World} {k : Nat} : ∀ (l : List Value) (off : Nat) (acc : ByteArray), (∀ (j : Nat) (v : Value), l[j]? = some v → w.cell? ⟨k, off + j, none⟩ = some v) → (∀ v ∈ l, isU8 v = true) →
  (loadBytes ⟨k, off, none⟩ acc l.length).run P w = .ok ⟨acc.data ++ (l.map toU8).toArray⟩ w := by
 intro l
 induction l with
 | nil => intro off acc _ _; simp [loadBytes]
 | cons v l ih =>
  intro off acc h hu
  have h0 := h 0 v (by simp)
  rw [Nat.add_zero] at h0
  have hv := hu v (by simp)
  unfold isU8 at hv
  split at hv
  ·rename_i n
   have hstep := ih (off + 1) (acc.push (Int.toNat (.ofNat n)).toUInt8) (fun j x hx => by
    have := h (j + 1) x (by simpa using hx)
    rwa [show off + 1 + j = off + (j + 1) by omega]) fun x hx => hu x (by simp [hx])
   simp only [List.length_cons, loadBytes]
   rw [Sem.run_bind]
   have hl : (load ⟨k, off, none⟩).run P w = .ok (.int .u8 (.ofNat n)) w := by simp [load, Sem.run, h0]
   rw [hl, Result.andThen_ok]
   simp only
   rw [addr_add, hstep]
   congr 1
   simp only [List.map_cons, ByteArray.push, toU8]
   congr 1
   simp
  ·cases hv
def iced (off n : Nat) : Obj → Obj
 | .cells c elem (lo, hi) => .cells c elem (if lo == hi then (off, off + n) else (min lo off, max hi (off + n)))
 | o => o
theorem wdq (w : World) (k off n r : Nat) (hn : n ≠ 0) : (w.freeze ⟨k, off, none⟩ n).heap[r]? = if k = r then (w.heap[r]?).map (iced off n) else w.heap[r]? := by
 unfold World.freeze
 rw [if_neg hn]
 simp only [Array.getElem?_modify]
 split
 ·rename_i h
  cases w.heap[r]? with
  | none => rfl
  | some o => cases o <;> rfl
 ·rfl
theorem wgab (w : World) (k off n r : Nat) (hn : n ≠ 0) : (w.freeze ⟨k, off, none⟩ n).shape? r = w.shape? r := by
 unfold World.shape?
 rw [wdq w k off n r hn]
 by_cases hkr : k = r
 ·rw [if_pos hkr]
  cases w.heap[r]? with
  | none => rfl
  | some o => cases o <;> rfl
 ·rw [if_neg hkr]
theorem wrx (w : World) (k off n : Nat) (a : Addr) (hn : n ≠ 0) : (w.freeze ⟨k, off, none⟩ n).cell? a = w.cell? a := by
 unfold World.cell?
 rw [wdq w k off n _ hn]
 by_cases hkr : k = a.block
 ·rw [if_pos hkr]
  cases w.heap[a.block]? with
  | none => rfl
  | some o => cases o <;> rfl
 ·rw [if_neg hkr]
theorem wqhb (w : World) (k off n : Nat) : (w.freeze ⟨k, off, none⟩ n).heap.size = w.heap.size := by
 unfold World.freeze
 split
 ·rfl
 ·simp
theorem ice_rel {ρ : Ren} {B : Nat} {H : AH} {w : World} (hR : Rel ρ B H w) {id ver : Nat} {l : Loc} {b : CBlk} (hl : ρ id ver = some l) (hb : H.get id = some (.cells b)) (hm : b.mark = false) (hid : wmb id = true) (off n : Nat) (hn : n ≠ 0) :
  Rel ρ B (H.set id (.cells { b with frz := max b.frz (off + n) })) (w.freeze ⟨l.block, off, none⟩ n) ∧ Ext ρ H w ρ (H.set id (.cells { b with frz := max b.frz (off + n) })) (w.freeze ⟨l.block, off, none⟩ n) := by
 refine Rel.write hR (.refl ρ) (fun _ _ _ h => .inl h) hb hid (by rw [wqhb]; exact Nat.le_refl _) ?_ ?_ ?_ (fun _ _ _ h => .inl h) (fun ver' l' i v h1 h2 _ => by rw [wrx _ _ _ _ _ hn]; exact hR.fz.cell _ _ _ h2) (fun _ _ h => Nat.lt_of_lt_of_le h (Nat.le_max_left _ _)) (fun _ _ _ _ _ _ _ _ _ h => h) ?_
 ·intro c _ himg
  rw [wdq w _ off n c hn, if_neg (himg _ _ hl)]
 ·intro ver' l' hl'
  obtain ⟨h1, h2⟩ := hR.blk _ _ _ _ hl' hb
  refine ⟨h1, fun hv => ?_⟩
  have hc := h2 hv
  obtain ⟨N, s1, s2, s3, s4⟩ := hc.shape
  have hhi := hc.hi hm
  have hhi' : hiOf (w.freeze ⟨l.block, off, none⟩ n) l'.block ≤ max b.frz (off + n) := by
   unfold hiOf at hhi ⊢
   rw [wdq w _ off n _ hn]
   by_cases hkr : l.block = l'.block
   ·rw [if_pos hkr]
    cases hq : w.heap[l'.block]? with
    | none => simp
    | some o =>
     rw [hq] at hhi
     cases o with
     | cells c el fz =>
      obtain ⟨lo, hi⟩ := fz
      simp only [Option.map_some, iced]
      simp only at hhi
      split <;> simp only <;> omega
     | _ => simp [iced]
   ·rw [if_neg hkr]; omega
  refine ⟨⟨N, by rw [wgab _ _ _ _ _ hn]; exact s1, s2, s3, fun i hi _ => ?_⟩, fun i v hi hiv => ?_, hc.esz, fun _ => hhi'⟩
  ·unfold hiOf at hhi'
   unfold World.frozen?
   simp only at hi ⊢
   cases hq : (w.freeze ⟨l.block, off, none⟩ n).heap[l'.block]? with
   | none => rfl
   | some o =>
    rw [hq] at hhi'
    cases o with
    | cells c el fz =>
     obtain ⟨lo, hh⟩ := fz
     simp only at hhi' ⊢
     have : ¬ i < hh := by omega
     simp [this]
    | _ => rfl
  ·obtain ⟨v', g1, g2⟩ := hc.vals i v hi hiv
   exact ⟨v', by rw [wrx _ _ _ _ _ hn]; exact g1, g2⟩
 ·intro c hc
  cases hc
  have := hR.wf _ _ hb
  exact ⟨this.lens, this.wver, this.pf⟩
 ·unfold World.freeze
  split <;> exact ⟨rfl, rfl⟩
theorem wqv {t u : TypeId} (h : wyp P t u = true) {N off n : Nat} (hle : off + n ≤ N) : liesAt P P.depth t (N / P.cellsOf t) off u n = true := by
 unfold wyp at h
 simp only [Bool.and_eq_true, Nat.beq_eq, Nat.blt_eq] at h
 obtain ⟨h1, h2, h3⟩ := h
 obtain ⟨d, hd⟩ : ∃ d, P.depth = d + 1 := ⟨P.depth - 1, by omega⟩
 have key : rowAt P (sameLayout P P.depth · u) P.depth t (N / P.cellsOf t) off n = true := by
  have : rowAt P (sameLayout P P.depth · u) (d + 1) t (N / P.cellsOf t) off n = true := by
   unfold rowAt
   simp only [h1, h3, Nat.div_one, Nat.mod_one]
   simp [hle]
  rwa [← hd] at this
 have : liesAt P (d + 1) t (N / P.cellsOf t) off u n = true := by
  unfold liesAt
  simp only [key, Bool.true_or]
 rw [← hd] at this
 exact this
theorem ice_tok {ρ : Ren} {B : Nat} {H : AH} {w : World} (hR : Rel ρ B H w) {t m : Nat} {l : Loc} {elem : TypeId} {esz : Nat} (hl : ρ t m = some l) (hb : H.get t = some (.tok m elem esz)) {n : Nat} (hn : n ≠ 0) (hle : n ≤ m * l.esz) :
  Rel ρ B H (w.freeze ⟨l.block, 0, none⟩ n) ∧ Ext ρ H w ρ H (w.freeze ⟨l.block, 0, none⟩ n) := by
 have hsize := wqhb w l.block 0 n
 have hother : ∀ r, r ≠ l.block → (w.freeze ⟨l.block, 0, none⟩ n).heap[r]? = w.heap[r]? := fun r hr => by rw [wdq w _ 0 n _ hn, if_neg (fun e => hr e.symm)]
 refine ⟨⟨?_, hR.wf, hR.low, hR.sep, fun id ver x h => by rw [hsize]; exact hR.bnd id ver x h, by rw [hsize]; exact hR.base, ⟨fun b i v h => by rw [wrx _ _ _ _ _ hn]; exact hR.fz.cell b i v h, hR.fz.sep⟩⟩, ?_⟩
 ·intro id ver x b hx hbx
  by_cases he : x.block = l.block
  ·have hid := hR.sep _ _ _ _ _ _ hx hl he
   subst hid
   rw [hb] at hbx
   cases hbx
   obtain ⟨h1, h2, h3⟩ := hR.blk _ _ _ _ hx hb
   refine ⟨h1, h2, fun hv => ?_⟩
   subst hv
   rw [hl] at hx
   cases hx
   have hk := h3 rfl
   have hhi : hiOf (w.freeze ⟨l.block, 0, none⟩ n) l.block ≤ ver * l.esz := by
    have h0 := hk.hi
    unfold hiOf at h0 ⊢
    rw [wdq w _ 0 n _ hn, if_pos rfl]
    cases hq : w.heap[l.block]? with
    | none => exact Nat.zero_le _
    | some o =>
     rw [hq] at h0
     cases o with
     | cells c el fz =>
      obtain ⟨lo, hi⟩ := fz
      simp only [Option.map_some, iced]
      simp only at h0
      split <;> simp only <;> omega
     | _ => exact Nat.zero_le _
   refine ⟨by rw [wgab _ _ _ _ _ hn]; exact hk.shape, hk.le, fun i hi _ => ?_, hhi⟩
   unfold hiOf at hhi
   unfold World.frozen?
   simp only at hi ⊢
   cases hq : (w.freeze ⟨l.block, 0, none⟩ n).heap[l.block]? with
   | none => rfl
   | some o =>
    rw [hq] at hhi
    cases o with
    | cells c el fz =>
     obtain ⟨lo, hh⟩ := fz
     simp only at hhi ⊢
     have : ¬ i < hh := by omega
     simp [this]
    | _ => rfl
  ·exact (hR.blk _ _ _ _ hx hbx).keep (.refl ρ) (hother _ he)
 ·refine ⟨.refl ρ, by rw [hsize]; exact Nat.le_refl _, fun b _ himg => hother b fun e => himg t m l (by rw [hb]; rfl) hl e.symm, fun id ver x h h' => (by rw [h] at h'; cases h'), fun id ver x h h' => (by rw [h] at h'; cases h'), Nat.le_refl _, fun _ h => h, fun _ h => .inl h, ?_, fun _ _ _ h => .inl h⟩
  unfold World.freeze
  split <;> exact ⟨rfl, rfl⟩
theorem waqb {at_ : Array TypeId} {ty pt : TypeId} (h1 : at_[0]? = some pt) (p : Option Addr) (k : IntKind) (w : World) : (Builtin.unsafeString_ at_ ty #[.pointer p, .int k 0]).run P w = .ok (.string .empty) w := by
 conv in (Builtin.unsafeString_ _ _ _) => whnf
 have c2 : ¬ (0 : Int) > IntKind.i64.max := by decide
 cases p <;> simp [h1, c2]
theorem wrhb {at_ : Array TypeId} {ty pt u : TypeId} (h1 : at_[0]? = some pt) {a : Addr} {k : IntKind} {n : Nat} {s : ByteArray} {w : World} (helem : (elemOf pt).run P w = .ok u w) (hn : 0 < n) (hmax : n ≤ 9223372036854775807)
  (hvar : (variablesAt a u n).run P w = .ok true w) (hload : (loadBytes a .empty n).run P w = .ok s w) : (Builtin.unsafeString_ at_ ty #[.pointer (some a), .int k (n : Int)]).run P w = .ok (.string s) (w.freeze a n) := by
 conv in (Builtin.unsafeString_ _ _ _) => whnf
 have c1 : ¬ (n : Int) < 0 := by omega
 have c2 : ¬ (n : Int) > IntKind.i64.max := by
  have : IntKind.i64.max = 9223372036854775807 := by decide
  rw [this]; omega
 have c3 : ¬ (n : Int) = 0 := by omega
 have c4 : ((n : Int)).toNat = n := by omega
 simp only [h1, c1, c2, c3, if_false, c4, Sem.run_bind, Sem.run_pure, Result.andThen_ok, helem, hvar, if_true, hload]
 simp [freeze, Sem.run]
theorem wbkb {ρ : Ren} {B : Nat} {H : AH} {w : World} (hR : Rel ρ B H w) {at_ : Array TypeId} {ty pt u : TypeId} (h1 : at_[0]? = some pt) (h2 : tyU P pt = some (.pointer u)) {fresh : Nat} {x x' y y' : Value} (hx : VR ρ x x') (hy : VR ρ y y') :
  ResOK P ρ B H w (wvc (Builtin.unsafeString_ at_ ty #[x', y'])) fresh (wedb P H u x (wce y)) := by
 have helem : (elemOf pt).run P w = .ok u w := by simp [elemOf, Sem.run_bind, wz h2]
 cases hn : wce y with
 | none => trivial
 | some n =>
  obtain ⟨k, e1⟩ := wxg hn
  rw [e1] at hy
  have e2 := hy.int_inv
  subst e2
  cases n with
  | zero =>
   simp only [wedb]
   split
   ·rename_i p
    have hp : ∃ p', x' = .pointer p' := by
     cases p with
     | none => exact ⟨none, hx.of_flat rfl⟩
     | some a => obtain ⟨l, _, g2⟩ := hx.ptr_inv; exact ⟨_, g2⟩
    obtain ⟨p', rfl⟩ := hp
    refine .val (v' := .string ⟨#[]⟩) ?_ (.flat rfl)
    rw [wy]
    have := waqb (P := P) (ty := ty) h1 p' k w
    rw [show ((0 : Nat) : Int) = 0 from rfl, this]
    rfl
   ·trivial
  | succ n =>
   simp only [wedb]
   split
   ·rename_i a
    split
    ·rename_i b hb
     cases hq : (wyp P b.elem u && Nat.ble (n + 1) 9223372036854775807) with
     | false => rw [cond_false]; trivial
     | true =>
      rw [cond_true]
      simp only [Bool.and_eq_true, Nat.ble_eq] at hq
      obtain ⟨q1, q2⟩ := hq
      unfold wrz
      cases hq2 : ((slotsOf b.cells a.off (n + 1)).all isU8 && (!b.mark && wmb a.block)) with
      | false => rw [cond_false]; trivial
      | true =>
       rw [cond_true, wzc]
       simp only [Bool.and_eq_true, Bool.not_eq_true'] at hq2
       obtain ⟨q3, q4, q5⟩ := hq2
       obtain ⟨l, g1, g2⟩ := hx.ptr_inv
       subst g2
       obtain ⟨r1, r2, r3, r4⟩ := wbe hb
       have hC := wqs hR hb g1
       obtain ⟨N, s1, s2, s3, s4⟩ := hC.shape
       have hlen := wrs hR hb
       have hN : a.off + (n + 1) ≤ N := by
        by_cases hz : b.lens = []
        ·have := s2 hz; omega
        ·have := (s3 hz).2; omega
       have hall := wcf q3
       have hsl : (slotsOf b.cells a.off (n + 1)).length = n + 1 := by simp [slotsOf]; omega
       have hcells : ∀ (j : Nat) (v : Value), (slotsOf b.cells a.off (n + 1))[j]? = some v → w.cell? ⟨l.block, a.off + j, none⟩ = some v := by
        intro j v hv
        have hj : j < n + 1 := by
         rcases Nat.lt_or_ge j (n + 1) with h | h
         ·exact h
         ·rw [List.getElem?_eq_none (by omega)] at hv; cases hv
        obtain ⟨z, z', t1, t2, t3⟩ := wzp hR hb g1 j hj
        have hz : z = v := by
         simp only [slotsOf, List.getElem?_take, List.getElem?_drop, if_pos hj] at hv
         rw [t1] at hv
         exact Option.some.inj hv
        subst hz
        have hu := hall z (List.mem_of_getElem? hv)
        have hf : flat z = true := by
         unfold isU8 at hu
         split at hu
         ·rfl
         ·cases hu
        rw [t2, t3.of_flat hf]
       have hload := wvo (P := P) (slotsOf b.cells a.off (n + 1)) a.off .empty hcells hall
       rw [hsl] at hload
       intro _
       obtain ⟨i1, i2⟩ := ice_rel hR g1 r1 q4 q5 a.off (n + 1) (by omega)
       refine ⟨.value (.string ⟨((slotsOf b.cells a.off (n + 1)).map toU8).toArray⟩), _, w.freeze ⟨l.block, a.off, none⟩ (n + 1), ρ, ?_, rfl, .flat rfl, i1, i2⟩
       have hvar : (variablesAt ⟨l.block, a.off, none⟩ u (n + 1)).run P w = .ok true w := by
        have := wqv q1 hN
        simp [variablesAt, program, shape, Sem.run, s1, this]
       have hrun : (Builtin.unsafeString_ at_ ty #[.pointer (some ⟨l.block, a.off, none⟩), .int k ((n + 1 : Nat) : Int)]).run P w = .ok (.string ⟨((slotsOf b.cells a.off (n + 1)).map toU8).toArray⟩) (w.freeze ⟨l.block, a.off, none⟩ (n + 1)) := by
        have hemp : (⟨ByteArray.empty.data ++ ((slotsOf b.cells a.off (n + 1)).map toU8).toArray⟩ : ByteArray) = ⟨((slotsOf b.cells a.off (n + 1)).map toU8).toArray⟩ := by
         congr 1
         simp [ByteArray.empty, ByteArray.emptyWithCapacity]
         try rfl
        rw [hemp] at hload
        exact wrhb h1 helem (by omega) q2 hvar hload
       rw [wy, hrun]
       rfl
    ·trivial
   ·unfold wkjb
    cases hq : asOP x with
    | none => trivial
    | some p =>
     obtain ⟨t, m, cs⟩ := p
     have h0 : x = OP t m cs := wsob hq
     subst h0
     obtain ⟨l, f, g1, g2, g3, g4, g5⟩ := hx.optr_inv
     subst g3
     show ResOK P ρ B H w _ fresh (wgpb P H u (n + 1) m cs (H.get t))
     unfold wgpb
     split
     ·rename_i kk elem esz hb
      cases hc : (Nat.beq kk m && (Nat.beq esz 1 && (Nat.ble (n + 1) m && (wyp P elem u && (Nat.ble (n + 1) 9223372036854775807 && (cs.take (n + 1)).all isU8))))) with
      | false => rw [cond_false]; trivial
      | true =>
       rw [cond_true]
       simp only [Bool.and_eq_true, Nat.beq_eq, Nat.ble_eq] at hc
       obtain ⟨c1, c2, c3, c4, c5, c6⟩ := hc
       subst c1 c2
       obtain ⟨b1, b2, b3⟩ := hR.blk _ _ _ _ g1 hb
       have hk := b3 rfl
       rw [b2, Nat.mul_one] at g2
       have hle := hk.le
       have hall := wcf c6
       have hsl : (cs.take (n + 1)).length = n + 1 := by rw [List.length_take]; omega
       have hcells : ∀ (j : Nat) (v : Value), (cs.take (n + 1))[j]? = some v → w.cell? ⟨l.block, 0 + j, none⟩ = some v := by
        intro j v hv
        have hj : j < n + 1 := by
         rcases Nat.lt_or_ge j (n + 1) with h | h
         ·exact h
         ·rw [List.getElem?_eq_none (by omega)] at hv; cases hv
        rw [List.getElem?_take, if_pos hj] at hv
        have t1 := hR.fz.cell _ _ _ (g4 j (by omega))
        have t2 := (g5 j v hv)
        have hu := hall v (List.mem_of_getElem? (show (cs.take (n + 1))[j]? = some v by rw [List.getElem?_take, if_pos hj]; exact hv))
        rw [t2.of_flat (wvdb hu)] at t1
        rw [Nat.zero_add]
        exact t1
       have hload := wvo (P := P) (cs.take (n + 1)) 0 .empty hcells hall
       rw [hsl] at hload
       intro _
       obtain ⟨i1, i2⟩ := ice_tok hR g1 hb (n := n + 1) (by omega) (by rw [b2]; omega)
       refine ⟨.value (.string ⟨((cs.take (n + 1)).map toU8).toArray⟩), _, w.freeze ⟨l.block, 0, none⟩ (n + 1), ρ, ?_, rfl, .flat rfl, i1, i2⟩
       have hvar : (variablesAt ⟨l.block, 0, none⟩ u (n + 1)).run P w = .ok true w := by
        have := wqv (off := 0) (n := n + 1) (N := l.cap * l.esz) c4 (by rw [b2]; omega)
        simp [variablesAt, program, shape, Sem.run, hk.shape, this]
       have hrun : (Builtin.unsafeString_ at_ ty #[.pointer (some ⟨l.block, 0, none⟩), .int k ((n + 1 : Nat) : Int)]).run P w = .ok (.string ⟨((cs.take (n + 1)).map toU8).toArray⟩) (w.freeze ⟨l.block, 0, none⟩ (n + 1)) := by
        have hemp : (⟨ByteArray.empty.data ++ ((cs.take (n + 1)).map toU8).toArray⟩ : ByteArray) = ⟨((cs.take (n + 1)).map toU8).toArray⟩ := by
         congr 1
         simp [ByteArray.empty, ByteArray.emptyWithCapacity]
         try rfl
        rw [hemp] at hload
        exact wrhb h1 helem (by omega) c5 hvar hload
       rw [wy, hrun]
       rfl
     ·trivial
end
end Go.Den
namespace Go.Den
noncomputable section
variable {P : Program}
theorem same_eq (x : Value) : Extern.AbiNoEscape.same #[x] = pure x := rfl
theorem wbqb {c : Call} {f : FuncId} {o : Oper} {a : Act} {x : Operand} (ho : o.op = .call c) (hcal : c.callee = .value (.func f)) (hs : wuob P f = true) (hx : c.args.toList = [x]) (w : World) : (execOp a.eval o).run P w = .ok (.value (a.eval x)) w := by
 unfold wuob at hs
 split at hs
 ·rename_i fn hfn
  simp only [Bool.and_eq_true, beq_iff_eq] at hs
  obtain ⟨h1, h2, h3⟩ := hs
  have hb : fn.body = none := by simpa using h1
  have e1 : Extern.findNext fn = none := by
   unfold Extern.findNext
   simp only [h2, h3]
   rfl
  have e2 : Extern.find fn = some Extern.AbiNoEscape.same := by
   unfold Extern.find
   simp only [h2, h3]
   rfl
  have hargs : c.args = #[x] := by
   cases hc : c.args with
   | mk l => rw [hc] at hx; simp at hx; rw [hx]
  have hn : ¬ fn.name = "runtime.NumGoroutine" := by rw [h2]; decide
  generalize hv : a.eval x = v
  simp only [execOp, ho, resolve, hcal, Act.eval, Deferred.ofValue, hargs]
  simp [invoke, callFunc, hfn, hb, h2, e1, e2, mark, Sem.run, same_eq, hv]
 ·cases hs
theorem wxq : ∀ n, (wpn n).length = n := by
 intro n
 induction n with
 | zero => rfl
 | succ n ih => show (JK :: wpn n).length = n + 1; simp [ih]
theorem wcqb : ∀ (n i : Nat) (v : Value), (wpn n)[i]? = some v → v = JK := by
 intro n
 induction n with
 | zero => intro i v h; change ([] : List Value)[i]? = some v at h; simp at h
 | succ n ih =>
  intro i v h
  have e : wpn (n + 1) = JK :: wpn n := rfl
  rw [e] at h
  cases i with
  | zero => simp at h; exact h.symm
  | succ i => simp at h; exact ih i v h
theorem wbeb {f : FuncId} {e : TypeId} (h : wehb P f = some e) : ∃ (fn : Func) (t : TypeId) (ti : TypeInfo), P.funcs[f]? = some fn ∧ fn.body = none ∧ fn.name = "internal/bytealg.MakeNoZero" ∧ fn.origin = "" ∧ fn.resultTypes = #[t] ∧ tyU P t = some (.slice e) ∧ wec P e = some ti ∧ ti.size = 1 := by
 unfold wehb at h
 split at h
 ·rename_i fn hfn
  cases hq : (fn.body.isNone && (fn.name == "internal/bytealg.MakeNoZero" && fn.origin == "")) with
  | false => rw [hq, cond_false] at h; cases h
  | true =>
   rw [hq, cond_true] at h
   simp only [Bool.and_eq_true, beq_iff_eq] at hq
   obtain ⟨h1, h2, h3⟩ := hq
   split at h
   ·rename_i t ht
    split at h
    ·rename_i e2 he2
     split at h
     ·rename_i ti hti
      cases hz : Nat.beq ti.size 1 with
      | false => rw [hz, cond_false] at h; cases h
      | true =>
       rw [hz, cond_true] at h
       cases h
       exact ⟨fn, t, ti, hfn, by simpa using h1, h2, h3, ht, he2, hti, Nat.eq_of_beq_eq_true hz⟩
     ·cases h
    ·cases h
   ·cases h
 ·cases h
theorem call_mk {c : Call} {f : FuncId} {o : Oper} {a : Act} {x : Operand} {fn : Func} {t : TypeId} (ho : o.op = .call c) (hcal : c.callee = .value (.func f)) (hfn : P.funcs[f]? = some fn) (hb : fn.body = none) (h2 : fn.name = "internal/bytealg.MakeNoZero") (h3 : fn.origin = "") (ht : fn.resultTypes = #[t]) (hx : c.args.toList = [x])
  {w w' : World} {v : Value} (hrun : (Extern.BytealgMakeNoZero.makeNoZero fn.params #[t] #[a.eval x]).run P w = .ok v w') : (execOp a.eval o).run P w = .ok (.value v) w' := by
 have e1 : Extern.findNext fn = none := by
  unfold Extern.findNext
  simp only [h2, h3]
  rfl
 have e2 : Extern.find fn = some (Extern.BytealgMakeNoZero.makeNoZero fn.params fn.resultTypes) := by
  unfold Extern.find
  simp only [h2, h3]
  rfl
 have hargs : c.args = #[x] := by
  cases hc : c.args with
  | mk l => rw [hc] at hx; simp at hx; rw [hx]
 generalize hv : a.eval x = u at hrun
 rw [← ht] at hrun
 simp only [execOp, ho, resolve, hcal, Act.eval, Deferred.ofValue, hargs]
 simp [invoke, callFunc, hfn, hb, h2, e1, e2, mark, hv]
 have hmark : Sem.run P (Sem.mark (Mark.extern f) (Sem.pure ())) w = .ok () w := rfl
 rw [hmark]
 simp [hrun]
theorem wckb {ρ : Ren} {B : Nat} {H : AH} {w : World} (hR : Rel ρ B H w) {e : Env} {a : Act} {fresh : Nat} {o : Oper} {c : Call} {f : FuncId} {x : Operand} {elem : TypeId} (ho : o.op = .call c) (hcal : c.callee = .value (.func f)) (he : wehb P f = some elem) (hx : c.args.toList = [x])
  (hE : ERel ρ e a) (hok : wic x = true) : ResOK P ρ B H w (execOp a.eval o) fresh (wfpb H elem (evl e x)) := by
 obtain ⟨fn, t, ti, f1, f2, f3, f4, f5, f6, f7, f8⟩ := wbeb he
 have hv := whb hE x hok
 unfold wfpb
 split
 ·rename_i n hn
  rw [hn] at hv
  have hv' := hv.of_flat rfl
  cases hq : Nat.ble (n + 1) 1099511627776 with
  | false => rw [cond_false]; trivial
  | true =>
   rw [cond_true]
   have hle := Nat.le_of_ble_eq_true hq
   obtain ⟨cs, h1, h2, _⟩ := Lib.run_makeNoZero (P := P) (w := w) fn.params t elem f6 (n + 1) (by omega)
   have hrun := call_mk (a := a) ho hcal f1 f2 f3 f4 f5 hx (w := w) (by rw [hv']; exact h1)
   unfold wwi
   cases hk : wmb H.n with
   | false => rw [cond_false]; trivial
   | true =>
    rw [cond_true]
    intro hfree
    have hf : ∀ ver, ρ H.n ver = none := fun ver => hfree H.n ver (Nat.le_refl _) (by rw [AH.push_eq]; exact Nat.lt_succ_self _)
    have hb : ∀ ρ', Sub ρ ρ' → ρ' H.n 0 = some ⟨w.heap.size, cs.size, 1⟩ → BRel ρ' (w.drew.drew.alloc (.cells cs elem)) (.cells { cells := wpn (n + 1), elem := elem, esz := 1, lens := [(wpn (n + 1)).length], wver := 0, frz := 0, pf := wcb (wpn (n + 1)) }) 0 ⟨w.heap.size, cs.size, 1⟩ := by
     intro ρ' g1 g2
     refine wlx (w := w) (arr := cs) (fz := (0, 0)) rfl rfl ?_ ?_ ?_ ?_ rfl
     ·intro i v hiv
      have hiv : (wpn (n + 1))[i]? = some v := hiv
      have hj := wcqb _ _ _ hiv
      subst hj
      have hi : i < n + 1 := by
       rcases Nat.lt_or_ge i (wpn (n + 1)).length with h | h
       ·rw [wxq] at h; exact h
       ·rw [List.getElem?_eq_none h] at hiv; cases hiv
      exact ⟨cs[i], Array.getElem?_eq_getElem (by omega), .junk⟩
     ·intro h; cases h
     ·intro _
      refine ⟨by simp, ?_⟩
      show (wpn (n + 1)).length ≤ _
      rw [wxq]
      exact h2
     ·intro i _; simp
    have hwf : ∀ b, ABlk.cells { cells := wpn (n + 1), elem := elem, esz := 1, lens := [(wpn (n + 1)).length], wver := 0, frz := 0, pf := wcb (wpn (n + 1)) } = .cells b → b.WF := by
     intro b hb
     cases hb
     exact ⟨by simp, Nat.zero_le _, fun h => h⟩
    obtain ⟨r1, r2⟩ := Ext.push (w' := w.drew.drew.alloc (.cells cs elem)) hR hk rfl rfl hf hb hwf
    refine ⟨_, _, _, _, hrun, rfl, ?_, r1, r2⟩
    have := VR.slice_mk (ρ := ρ.add H.n 0 ⟨w.heap.size, cs.size, 1⟩) (a := ⟨H.n, 0, some 0⟩) (len := n + 1) (c := 0) (Ren.add_self _ _ _ _)
    simpa [capOf] using this
 ·trivial
theorem wdkb {ρ : Ren} {B : Nat} {H : AH} {w : World} (hR : Rel ρ B H w) {e : Env} {a : Act} {fresh : Nat} {o : Oper} {src dst t : TypeId} {x : Operand} {ti : TypeInfo} (ho : o.op = .convert src dst x) (hs : tyU P src = some (.pointer t)) (hd : tyU P dst = some .unsafePointer) (ht : wec P t = some ti) (hz : 0 < ti.size)
  (hE : ERel ρ e a) (hk : wsf o.op = true) (hops : ∀ x ∈ o.op.operands.toList, wic x = true) : ResOK P ρ B H w (execOp a.eval o) fresh (wpz P e H (evl e x) o) := by
 have hx : wic x = true := hops x (by rw [ho]; simp [Op.operands])
 have hv := whb hE x hx
 have hex : execOp a.eval o = wvc (convert src dst (a.eval x)) := by simp only [execOp, ho, wvc]
 unfold wpz
 split
 ·rename_i p h0
  rw [h0] at hv
  split
  ·rename_i b hb
   obtain ⟨l, g1, g2⟩ := hv.ptr_inv
   have hC := wqs hR hb g1
   obtain ⟨r1, r2, r3, r4⟩ := wbe hb
   have hlen := wrs hR hb
   obtain ⟨N, s1, s2, s3, s4⟩ := hC.shape
   have hN : p.off < N := by
    by_cases hq : b.lens = []
    ·have := s2 hq; omega
    ·have := (s3 hq).2; omega
   rw [hex]
   refine .val (v' := .pointer (some ⟨l.block, p.off, none⟩)) ?_ (VR.ptr g1)
   rw [wy, g2]
   have hview : (viewAt l.block).run P w = .ok none w := by simp [viewAt, shape, Sem.run, s1]
   have hcin : (cellsIn l.block).run P w = .ok (some N) w := by simp [cellsIn, shape, Sem.run, s1]
   have hsz : ¬ ti.size = 0 := by omega
   have hoff : ¬ p.off ≥ N := by omega
   have : (convert src dst (.pointer (some ⟨l.block, p.off, none⟩))).run P w = .ok (.pointer (some ⟨l.block, p.off, none⟩)) w := by
    simp [convert, Sem.run_bind, wz hs, wz hd, Conv.unsafePointer, Conv.seenAt, hview, hcin, whc ht, hsz, hoff]
   rw [this]
   rfl
  ·trivial
 ·exact wmc hk hE hops
theorem wekb {ρ : Ren} {B : Nat} {H : AH} {w : World} (hR : Rel ρ B H w) {e : Env} {a : Act} {fresh : Nat} {o : Oper} {src dst u : TypeId} {x : Operand} (ho : o.op = .convert src dst x) (hs : tyU P src = some .unsafePointer) (hd : tyU P dst = some (.pointer u)) {ti : TypeInfo} (ht : wec P u = some ti)
  (hE : ERel ρ e a) (hk : wsf o.op = true) (hops : ∀ x ∈ o.op.operands.toList, wic x = true) : ResOK P ρ B H w (execOp a.eval o) fresh (wqz P e H u (evl e x) o) := by
 have hx : wic x = true := hops x (by rw [ho]; simp [Op.operands])
 have hv := whb hE x hx
 have hex : execOp a.eval o = wvc (convert src dst (a.eval x)) := by simp only [execOp, ho, wvc]
 unfold wqz
 split
 ·rename_i p h0
  rw [h0] at hv
  split
  ·rename_i b hb
   cases hq : rowOk P b p.off u with
   | false => rw [cond_false]; trivial
   | true =>
    rw [cond_true]
    unfold rowOk at hq
    split at hq
    ·rename_i hl
     obtain ⟨l, g1, g2⟩ := hv.ptr_inv
     have hC := wqs hR hb g1
     obtain ⟨N, s1, s2, s3, s4⟩ := hC.shape
     rw [← s2 hl] at hq
     rw [hex]
     refine .val (v' := .pointer (some ⟨l.block, p.off, none⟩)) ?_ (VR.ptr g1)
     rw [wy, g2]
     have hview : (viewAt l.block).run P w = .ok none w := by simp [viewAt, shape, Sem.run, s1]
     have hvar : (variablesAt ⟨l.block, p.off, none⟩ u 1).run P w = .ok true w := by simp [variablesAt, program, shape, Sem.run, s1, hq]
     have : (convert src dst (.pointer (some ⟨l.block, p.off, none⟩))).run P w = .ok (.pointer (some ⟨l.block, p.off, none⟩)) w := by
      by_cases hzz : ti.size = 0 <;> simp [convert, Sem.run_bind, wz hs, wz hd, Conv.unsafePointer, Conv.seenAt, hview, hvar, whc ht, hzz]
     rw [this]
     rfl
    ·cases hq
  ·trivial
 ·exact wmc hk hE hops
theorem weq {d : TypeDesc} {t : TypeId} (h : wwob d = some t) : d = .pointer t := by
 cases d <;> simp [wwob] at h
 rw [h]
theorem wrv {d : TypeDesc} (h : isUns d = true) : d = .unsafePointer := by
 cases d <;> first | rfl | simp [isUns] at h
theorem wdqb {ρ : Ren} {B : Nat} {H : AH} {w : World} (hR : Rel ρ B H w) {e : Env} {a : Act} {fresh : Nat} {o : Oper} {src dst : TypeId} {sd dd : TypeDesc} {x : Operand} {i : Ins} (ho : o.op = .convert src dst x) (hs : tyU P src = some sd) (hd : tyU P dst = some dd)
  (hE : ERel ρ e a) (hk : wsf o.op = true) (hops : ∀ x ∈ o.op.operands.toList, wic x = true) (hc : www P sd dd x o = some i) : ResOK P ρ B H w (execOp a.eval o) fresh (insA P e H fresh i) := by
 unfold www at hc
 split at hc
 ·rename_i t ht
  split at hc
  ·rename_i hu
   unfold wxob at hc
   split at hc
   ·rename_i ti h3
    split at hc
    ·rename_i h4
     cases hc
     exact wdkb hR ho (by rw [hs, weq ht]) (by rw [hd, wrv hu]) h3 (by simpa using h4) hE hk hops
    ·cases hc
   ·cases hc
  ·cases hc; exact wmc hk hE hops
 ·split at hc
  ·rename_i hu
   split at hc
   ·rename_i u hu2
    unfold wvw at hc
    split at hc
    ·rename_i ti h3
     cases hc
     exact wekb hR ho (by rw [hs, wrv hu]) (by rw [hd, weq hu2]) h3 hE hk hops
    ·cases hc
   ·cases hc; exact wmc hk hE hops
  ·cases hc; exact wmc hk hE hops
end
end Go.Den
namespace Go.Den
noncomputable section
variable {P : Program}
theorem wyq {g : FuncId} (h : wnn P g = true) (args : Array Value) (w : World) : (callFunc g args).run P w = .ok (.enter g args) w := by
 unfold wnn at h
 split at h
 ·rename_i fn hfn
  simp only [Bool.and_eq_true, Bool.not_eq_true', Option.isSome_iff_exists] at h
  obtain ⟨⟨b, hb⟩, hn⟩ := h
  have hn' : ¬ fn.name = "runtime.NumGoroutine" := by simpa using hn
  simp [callFunc, hfn, hb, hn']
 ·cases h
theorem wfkb {ρ : Ren} {B : Nat} {H : AH} {w : World} {e : Env} {a : Act} {fresh : Nat} (hE : ERel ρ e a) {o : Oper} {c : Call} {f : FuncId} (ho : o.op = .call c) (hcal : c.callee = .value (.func f)) (hops : ∀ x ∈ o.op.operands.toList, wic x = true) (hb : wnn P f = true) :
  ResOK P ρ B H w (execOp a.eval o) fresh (.call f (evls e c.args.toList)) := by
 have hargs : ∀ x ∈ c.args.toList, wic x = true := fun x hx => hops x (by rw [ho]; simp only [Op.operands, Call.operands, Array.toList_append, List.mem_append]; exact .inr hx)
 refine ⟨c.args.map a.eval, ?_, by simpa using whx hE c.args.toList hargs⟩
 simp only [execOp, ho, resolve, hcal, Act.eval, Deferred.ofValue]
 simp [invoke, wyq hb]
theorem weqb {ρ : Ren} {B : Nat} {H : AH} {w : World} {e : Env} {a : Act} {fresh : Nat} (hE : ERel ρ e a) {o : Oper} {c : Call} {f : Operand} (ho : o.op = .call c) (hcal : c.callee = .value f) (hops : ∀ x ∈ o.op.operands.toList, wic x = true) :
  ResOK P ρ B H w (execOp a.eval o) fresh (dynA P (evl e f) (evls e c.args.toList)) := by
 have hargs : ∀ x ∈ c.args.toList, wic x = true := fun x hx => hops x (by rw [ho]; simp only [Op.operands, Call.operands, Array.toList_append, List.mem_append]; exact .inr hx)
 have hf : wic f = true := hops f (by rw [ho]; simp [Op.operands, Call.operands, hcal])
 have hv := whb hE f hf
 unfold dynA
 split
 ·rename_i g first captured h0
  rw [h0] at hv
  cases hq : wnn P g with
  | false => rw [cond_false]; trivial
  | true =>
   rw [cond_true]
   obtain ⟨f', c', h1, h2, h3, h4⟩ := hv.func_inv rfl
   refine ⟨f' ++ c.args.map a.eval ++ c', ?_, ?_⟩
   ·simp only [execOp, ho, resolve, hcal, h1, Deferred.ofValue]
    simp [invoke, wyq hq]
   ·have := (h3.append (whx hE c.args.toList hargs)).append h4
    simpa using this
 ·trivial
theorem wwo {t : Option TypeId} {el : TypeId} (h : wgk P t = some el) : ∃ st, t = some st ∧ tyU P st = some (.slice el) := by
 unfold wgk at h
 split at h
 ·split at h
  ·rename_i h1; cases h; exact ⟨_, rfl, h1⟩
  ·cases h
 ·cases h
theorem wgkb {b : Builtin} (h : isDel b = true) : b = .delete := by
 cases b <;> first | rfl | simp [isDel] at h
theorem wceb {b : Builtin} (h : wyob b = true) : b = .unsafeString := by
 cases b <;> first | rfl | simp [wyob] at h
theorem wsx {ρ : Ren} {B : Nat} {H : AH} {w : World} (hR : Rel ρ B H w) {e : Env} {a : Act} {fresh : Nat} (hE : ERel ρ e a) {o : Oper} {c : Call} {b : Builtin} (ho : o.op = .call c) (hcal : c.callee = .builtin b) (hk : wsf o.op = true) (hops : ∀ x ∈ o.op.operands.toList, wic x = true)
  {i : Ins} (hc : whk P b c.args.toList c.argTypes o = some i) : ResOK P ρ B H w (execOp a.eval o) fresh (insA P e H fresh i) := by
 have hargs : ∀ x ∈ c.args.toList, wic x = true := fun x hx => hops x (by rw [ho]; simp only [Op.operands, Call.operands, Array.toList_append, List.mem_append]; exact .inr hx)
 unfold whk at hc
 split at hc
 ·rename_i x hx
  split at hc
  ·rename_i el hd; cases hc; exact wrpb ho hcal hx hd hE hk hops
  ·rename_i kt el hd; cases hc; exact wvjb hR ho hcal hx hd hE hk hops
  ·cases hc; exact wmc hk hE hops
  ·cases hc
 ·rename_i x hx
  split at hc
  ·rename_i el hd; cases hc; exact wspb ho hcal hx hd hE hops
  ·cases hc
 ·rename_i s x hx
  split at hc
  ·rename_i elem hd
   split at hc
   ·rename_i ti d h1 h2
    split at hc
    ·rename_i h3
     cases hc
     simp only [appOk, Bool.and_eq_true, Nat.blt_eq] at h3
     obtain ⟨h3, h4, h5⟩ := h3
     unfold zeroOk at h5
     split at h5
     ·rename_i z hz
      obtain ⟨z1, z2⟩ := wqe hz
      obtain ⟨st, s1, s2⟩ := wwo hd
      obtain ⟨xt, s3, s4⟩ := Option.bind_eq_some_iff.1 h2
      have hT : AppTys P c.argTypes elem ti z := ⟨⟨st, xt, d, s1, s2, s3, s4, by cases d <;> first | exact .inl ⟨_, rfl⟩ | exact .inr rfl | cases h3⟩, h1, z1, Nat.eq_of_beq_eq_true h5, h4⟩
      rw [wwr ho hcal hx (f := Builtin.append_) (fun _ _ _ _ => rfl)]
      exact wwpb hR hT (whb hE s (hargs s (by rw [hx]; simp))) (whb hE x (hargs x (by rw [hx]; simp)))
     ·cases h5
    ·cases hc
   ·cases hc
  ·cases hc
 ·rename_i d s hx
  split at hc
  ·rename_i elem hd
   split at hc
   ·rename_i ti h1
    split at hc
    ·cases hc
     obtain ⟨st, s1, s2⟩ := wwo hd
     rw [wwr ho hcal hx (f := Builtin.copy_) (fun _ _ _ _ => rfl)]
     exact wxjb hR s1 s2 h1 (whb hE d (hargs d (by rw [hx]; simp))) (whb hE s (hargs s (by rw [hx]; simp)))
    ·cases hc
   ·cases hc
  ·cases hc
 ·rename_i x hx; cases hc; exact wtpb hR ho hcal hx hE hops
 ·cases hc; exact wmc hk hE hops
 ·cases hc; exact wmc hk hE hops
 ·cases hc; exact wmc hk hE hops
 ·cases hc; exact wmc hk hE hops
 ·cases hc; exact wmc hk hE hops
 ·unfold wzw at hc
  split at hc
  ·rename_i hb
   have hb' := wceb hb
   subst hb'
   unfold wyw at hc
   split at hc
   ·rename_i x n hx
    split at hc
    ·rename_i u hu
     cases hc
     obtain ⟨d, s1, s2⟩ := Option.bind_eq_some_iff.1 hu
     obtain ⟨pt, s3, s4⟩ := Option.bind_eq_some_iff.1 s1
     rw [weq s2] at s4
     rw [wwr ho hcal hx (f := Builtin.unsafeString_) (fun _ _ _ _ => rfl)]
     exact wbkb hR s3 s4 (whb hE x (hargs x (by rw [hx]; simp))) (whb hE n (hargs n (by rw [hx]; simp)))
    ·cases hc
   ·cases hc
  ·split at hc
   ·rename_i _ hb
    have hb' := wgkb hb
    subst hb'
    unfold wzcb at hc
    split at hc
    ·rename_i m k hx
     split at hc
     ·rename_i kt et hu
      cases hc
      obtain ⟨d, s1, s2⟩ := Option.bind_eq_some_iff.1 hu
      rw [wwr ho hcal hx (f := Builtin.delete_) (fun _ _ _ _ => rfl)]
      exact wzpb hR s1 s2 (whb hE m (hargs m (by rw [hx]; simp))) (whb hE k (hargs k (by rw [hx]; simp)))
     ·cases hc
    ·cases hc
   ·cases hc
theorem wdeb {ρ : Ren} {B : Nat} {H : AH} {w : World} {e : Env} {a : Act} {fresh : Nat} (hE : ERel ρ e a) {s : TypeId} {x : Operand} {f : Nat} (hx : wic x = true) {i : Ins} (hc : wmo P s x f = some i) :
  ResOK P ρ B H w (wvc (Instr.field s (a.eval x) f)) fresh (insA P e H fresh i) := by
 have hv := whb hE x hx
 unfold wmo at hc
 split at hc
 ·rename_i fields h1
  split at hc
  ·rename_i fd h2
   have h2' : fields[f]? = some fd := h2
   have hrw : ∀ (w2 : World), (wvc (Instr.field s (a.eval x) f)).run P w2 = (wvc (do part fd.type (← asAgg (a.eval x)) fd.offset)).run P w2 := by
    intro w2
    rw [wy, wy]
    simp [Instr.field, wz h1, h2']
   split at hc
   ·rename_i ti d h3 h4
    cases hc
    have fin : ∀ r, ResOK P ρ B H w (wvc (do part fd.type (← asAgg (a.eval x)) fd.offset)) fresh r → (∃ v, r = val v) ∨ r = .none → ResOK P ρ B H w (wvc (Instr.field s (a.eval x) f)) fresh r := by
     intro r h hr
     rcases hr with ⟨v, rfl⟩ | rfl
     ·obtain ⟨v', g1, g2⟩ := h
      exact ⟨v', by rw [hrw]; exact g1, g2⟩
     ·trivial
    split
    ·rename_i hd
     refine fin _ (wov hv h4 h3 hd fd.offset) ?_
     show (∃ v, wou fd.offset ti.size (evl e x) = val v) ∨ wou fd.offset ti.size (evl e x) = .none
     unfold wou
     split
     ·cases Nat.ble _ _ with
      | false => exact .inr rfl
      | true => exact .inl ⟨_, rfl⟩
     ·exact .inr rfl
    ·rename_i hd
     refine fin _ (wnv hv h4 (by simpa using hd) fd.offset) ?_
     show (∃ v, wir fd.offset (evl e x) = val v) ∨ wir fd.offset (evl e x) = .none
     unfold wir
     split
     ·rcases wsm _ with h | h
      ·exact .inr h
      ·exact .inl h
     ·exact .inr rfl
   ·cases hc
  ·cases hc
 ·cases hc
theorem weeb {ρ : Ren} {B : Nat} {H : AH} {w : World} {e : Env} {a : Act} {fresh : Nat} (hE : ERel ρ e a) {o : Oper} {t : TypeId} {x y : Operand} (ho : o.op = .index t x y) (hk : wsf o.op = true) (hops : ∀ x ∈ o.op.operands.toList, wic x = true)
  {i : Ins} (hc : woo P t x y o = some i) : ResOK P ρ B H w (execOp a.eval o) fresh (insA P e H fresh i) := by
 have hx : wic x = true := hops x (by rw [ho]; simp [Op.operands])
 have hy : wic y = true := hops y (by rw [ho]; simp [Op.operands])
 have hv := whb hE x hx
 have hi := whb hE y hy
 unfold woo at hc
 split at hc
 ·rename_i len elem h1
  split at hc
  ·rename_i ti d h2 h3
   have hrw : ∀ (n : Nat), wce (evl e y) = some n → n < len → ∀ (cs : Array Value) (w2 : World), a.eval x = .agg cs → (execOp a.eval o).run P w2 = (wvc (do part elem (← asAgg (a.eval x)) (n * ti.size))).run P w2 := by
    intro n hn hlt cs w2 hcs
    obtain ⟨k, hk1⟩ := wxg hn
    rw [hk1] at hi
    rw [wy]
    simp only [execOp, ho, hi.int_inv, hcs]
    simp [Instr.index, asIntOf, wz h1, whc h2, asAgg]
    intro h9; omega
   have hagg : ∀ n, wce (evl e y) = some n → n < len → ∀ r, ((∃ v, r = val v) ∧ (∃ cs, evl e x = .agg cs) ∨ r = .none) → ResOK P ρ B H w (wvc (do part elem (← asAgg (a.eval x)) (n * ti.size))) fresh r → ResOK P ρ B H w (execOp a.eval o) fresh r := by
    intro n hn hlt r hr h
    rcases hr with ⟨⟨v, rfl⟩, cs, hcs⟩ | rfl
    ·obtain ⟨v', g1, g2⟩ := h
     rw [hcs] at hv
     obtain ⟨cs', q1, _⟩ := hv.agg_inv
     exact ⟨v', by rw [hrw n hn hlt cs' w q1]; exact g1, g2⟩
    ·trivial
   split at hc
   ·rename_i hd
    cases hc
    show ResOK P ρ B H w _ fresh (wgjb len ti.size (evl e x) (evl e y))
    unfold wgjb
    split
    ·rename_i n hn
     cases hq : Nat.blt n len with
     | false => rw [cond_false]; trivial
     | true =>
      rw [cond_true]
      have hlt : n < len := Nat.le_of_ble_eq_true hq
      refine hagg n hn hlt _ ?_ (wov hv h3 h2 hd (n * ti.size))
      unfold wou
      split
      ·rename_i cs hcs
       cases Nat.ble _ _ with
       | false => exact .inr rfl
       | true => exact .inl ⟨⟨_, rfl⟩, cs, hcs⟩
      ·exact .inr rfl
    ·trivial
   ·rename_i hd
    cases hc
    show ResOK P ρ B H w _ fresh (wkz len ti.size (evl e x) (evl e y))
    unfold wkz
    split
    ·rename_i n hn
     cases hq : Nat.blt n len with
     | false => rw [cond_false]; trivial
     | true =>
      rw [cond_true]
      have hlt : n < len := Nat.le_of_ble_eq_true hq
      refine hagg n hn hlt _ ?_ (wnv hv h3 (by simpa using hd) (n * ti.size))
      unfold wir
      split
      ·rename_i cs hcs
       rcases wsm (cs.toList[n * ti.size]?) with h | h
       ·exact .inr h
       ·exact .inl ⟨h, cs, hcs⟩
      ·exact .inr rfl
    ·trivial
  ·cases hc
 ·cases hc; exact wmc hk hE hops
 ·cases hc
theorem wfq {ρ : Ren} {B : Nat} {H : AH} {w : World} (hR : Rel ρ B H w) {e : Env} {a : Act} {fresh : Nat} (hE : ERel ρ e a) {o : Oper} {i : Ins} (hc : comp P o = some i) :
  ResOK P ρ B H w (execOp a.eval o) fresh (insA P e H fresh i) := by
 unfold comp at hc
 split at hc
 ·rename_i h0
  simp only [Bool.and_eq_true] at h0
  obtain ⟨hk, hops0⟩ := h0
  have hops := wcf hops0
  have mem : ∀ {x : Operand}, x ∈ o.op.operands.toList → wic x = true := fun h => hops _ h
  unfold wzob at hc
  split at hc
  ·rename_i x ho; cases hc
   exact wix hE (hops x (by rw [ho]; simp [Op.operands])) (by simp [execOp, ho])
  ·rename_i x ho; cases hc
   exact wix hE (hops x (by rw [ho]; simp [Op.operands])) (by simp [execOp, ho])
  ·rename_i c x y ho; cases hc
   have := wljb (P := P) (B := B) (H := H) (w := w) (fresh := fresh) hE (c := c) (x := x) (y := y) (hops c (by rw [ho]; simp [Op.operands])) (hops x (by rw [ho]; simp [Op.operands])) (hops y (by rw [ho]; simp [Op.operands]))
   simp only [execOp, ho]; exact this
  ·rename_i elem ho
   split at hc
   ·rename_i ti h1
    split at hc
    ·rename_i z h2; cases hc
     have := wkpb (P := P) (ρ := ρ) (B := B) (H := H) (w := w) (fresh := fresh) h1 h2
     simp only [execOp, ho]; exact this
    ·cases hc
   ·cases hc
  ·rename_i elem x ho; cases hc
   have := wlpb (P := P) (B := B) (H := H) (w := w) (fresh := fresh) hE (elem := elem) (hops x (by rw [ho]; simp [Op.operands]))
   simp only [execOp, ho]; exact this
  ·rename_i t parts ho
   have := widb (P := P) (B := B) (H := H) (w := w) (fresh := fresh) hE (t := t) (parts := parts) (fun p hp => hops p.2 (by rw [ho]; simp only [Op.operands]; simp; exact ⟨p.1, by simpa using hp⟩)) hc
   simp only [execOp, ho]; exact this
  ·rename_i t len parts ho
   have := wtz (P := P) (B := B) (H := H) (w := w) (fresh := fresh) hE (t := t) (len := len) (parts := parts) (fun p hp => hops p.2 (by rw [ho]; simp only [Op.operands]; simp; exact ⟨p.1, by simpa using hp⟩)) hc
   simp only [execOp, ho]; exact this
  ·rename_i t x ho
   have := wsjb (fresh := fresh) hR hE (hops x (by rw [ho]; simp [Op.operands])) hc
   simp only [execOp, ho]; exact this
  ·rename_i t x y ho
   split at hc
   ·rename_i ti h1; cases hc; exact wydb hR ho h1 hE hops
   ·cases hc
  ·rename_i x ho; cases hc; exact wrjb hE (hops x (by rw [ho]; simp [Op.operands])) ho
  ·rename_i op t x y yt ho
   unfold wxcb at hc
   split at hc
   ·rename_i d hd
    split at hc
    ·cases hc; exact wojb ho hk hE hops
    ·split at hc
     ·split at hc
      ·exact wwz (neg := false) ho hE hops rfl hd hc
      ·exact wwz (neg := true) ho hE hops rfl hd hc
      ·cases hc
     ·cases hc; exact wmc hk hE hops
   ·cases hc
  ·cases hc; exact wmc hk hE hops
  ·rename_i src dst x ho
   unfold wxw at hc
   split at hc
   ·rename_i el h1 h2
    split at hc
    ·rename_i h3; cases hc; exact wupb hR ho h1 h2 h3 hE hk hops
    ·cases hc
   ·rename_i el h1 h2
    split at hc
    ·rename_i ti h3 h4
     split at hc
     ·cases hc; exact wvpb ho h1 h2 h3 hE hops
     ·cases hc
    ·cases hc
   ·rename_i sd dd _ _ h1 h2
    exact wdqb hR ho h1 h2 hE hk hops hc
   ·cases hc
  ·rename_i t x ho
   split at hc
   ·cases hc
   ·rename_i d hnot hd; cases hc
    have := wgdb (P := P) (B := B) (H := H) (w := w) (fresh := fresh) hE (hops x (by rw [ho]; simp [Op.operands])) hd (fun ms h => hnot ms h)
    simp only [execOp, ho]; exact this
   ·cases hc
  ·rename_i fn first captured ho
   split at hc
   ·rename_i hf; cases hc
    have := wmjb (P := P) (B := B) (H := H) (w := w) (fresh := fresh) hE (fn := fn) (f := first) (c := captured) (fun x hx => hops x (by rw [ho]; simp only [Op.operands, Array.toList_append, List.mem_append]; exact .inl hx)) (fun x hx => hops x (by rw [ho]; simp only [Op.operands, Array.toList_append, List.mem_append]; exact .inr hx)) hf
    simp only [execOp, ho]; exact this
   ·cases hc
  ·rename_i t ho; cases hc
   have := wjdb (P := P) (ρ := ρ) (B := B) (H := H) (w := w) (fresh := fresh) (t := t)
   simp only [execOp, ho]; exact this
  ·rename_i t l c ho
   split at hc
   ·rename_i elem h1
    split at hc
    ·rename_i ti h2
     split at hc
     ·rename_i z h3
      split at hc
      ·rename_i h4; cases hc
       simp only [Bool.and_eq_true, Nat.beq_eq, Nat.blt_eq] at h4
       have := wmx (P := P) (B := B) (H := H) (w := w) (fresh := fresh) hE (l := l) (c := c) (hops l (by rw [ho]; simp [Op.operands])) (hops c (by rw [ho]; simp [Op.operands])) h1 h2 h3 h4.1 h4.2
       simp only [execOp, ho]; exact this
      ·cases hc
     ·cases hc
    ·cases hc
   ·cases hc
  ·rename_i t x lo hi mx ho
   unfold wtob at hc
   split at hc
   ·cases hc; exact wmc hk hE hops
   ·rename_i elem h1
    split at hc
    ·rename_i ti h2; cases hc; exact wppb hR ho hk hE hops h1 h2
    ·cases hc
   ·rename_i n elem h1
    split at hc
    ·rename_i ti h2; cases hc
     have := wqpb (P := P) (B := B) (H := H) (w := w) (fresh := fresh) (lo := lo) (hi := hi) hE (hops x (by rw [ho]; simp [Op.operands])) (fun y hy => hops y (by rw [ho, hy]; simp [Op.operands])) (fun y hy => hops y (by rw [ho, hy]; simp [Op.operands])) h1 h2
     simp only [execOp, ho, Option.map_none]; exact this
    ·cases hc
   ·cases hc
  ·rename_i s x f ho
   have := wrdb (P := P) (B := B) (H := H) (w := w) (fresh := fresh) hE (hops x (by rw [ho]; simp [Op.operands])) hc
   simp only [execOp, ho]; exact this
  ·rename_i s x f ho
   have := wdeb (P := P) (B := B) (H := H) (w := w) (fresh := fresh) hE (hops x (by rw [ho]; simp [Op.operands])) hc
   simp only [execOp, ho]; exact this
  ·rename_i t x y ho
   have := wsdb (P := P) (B := B) (H := H) (w := w) (fresh := fresh) hE (hops x (by rw [ho]; simp [Op.operands])) (hops y (by rw [ho]; simp [Op.operands])) hc
   simp only [execOp, ho]; exact this
  ·rename_i t x y ho; exact weeb hE ho hk hops hc
  ·rename_i t m k ok ho
   split at hc
   ·rename_i kt et h1
    split at hc
    ·rename_i ti h2
     split at hc
     ·rename_i z h3; cases hc; exact wzjb hR ho h1 h2 h3 hE hk hops
     ·cases hc
    ·cases hc
   ·cases hc
  ·rename_i t m k x ho
   split at hc
   ·rename_i kt et h1; cases hc
    exact wfab hR h1 (whb hE m (hops m (by rw [ho]; simp [Op.operands]))) (whb hE k (hops k (by rw [ho]; simp [Op.operands]))) (whb hE x (hops x (by rw [ho]; simp [Op.operands]))) (by simp only [execOp, ho])
   ·cases hc
  ·rename_i t m k x ho
   split at hc
   ·rename_i kt et h1; cases hc
    exact wfab hR h1 (whb hE m (hops m (by rw [ho]; simp [Op.operands]))) (whb hE k (hops k (by rw [ho]; simp [Op.operands]))) (whb hE x (hops x (by rw [ho]; simp [Op.operands]))) (by simp only [execOp, ho])
   ·cases hc
  ·rename_i x j ho; cases hc
   have := whpb (P := P) (B := B) (H := H) (w := w) (fresh := fresh) hE (i := j) (hops x (by rw [ho]; simp [Op.operands]))
   simp only [execOp, ho]; exact this
  ·cases hc; exact wmc hk hE hops
  ·rename_i c ho
   split at hc
   ·rename_i b hb; exact wsx hR hE ho hb hk hops hc
   ·rename_i f hf
    split at hc
    ·rename_i hbd; cases hc; exact wfkb hE ho hf hops hbd
    ·split at hc
     ·rename_i hs
      unfold wuw at hc
      split at hc
      ·rename_i x hx
       cases hc
       exact wix hE (hops x (by rw [ho]; simp only [Op.operands, Call.operands, Array.toList_append, List.mem_append]; exact .inr (by rw [hx]; simp))) (wbqb ho hf hs hx w)
      ·cases hc
     ·unfold wycb at hc
      split at hc
      ·rename_i el hel
       unfold wvob at hc
       split at hc
       ·rename_i x hx
        cases hc
        exact wckb hR ho hf hel hx hE (hops x (by rw [ho]; simp only [Op.operands, Call.operands, Array.toList_append, List.mem_append]; exact .inr (by rw [hx]; simp)))
       ·cases hc
      ·cases hc; exact wmc hk hE hops
   ·rename_i f _ hf; cases hc; exact weqb hE ho hf hops
   ·cases hc
  ·cases hc
 ·cases hc
end
end Go.Den
namespace Go.Den
noncomputable section
structure COp where
 dst : Option Tmp
 guard : Option (Option Tmp × Bool)
 ins : Option Ins
def woc (ops : Array Oper) : Option (Nat × Bool) → Option (Option Tmp × Bool)
 | none => none
 | some (j, want) => some ((ops[j]?).bind (·.dst), want)
def wti (P : Program) (ops : Array Oper) (o : Oper) : COp := { dst := o.dst, guard := woc ops o.guard, ins := comp P o }
def wyg (P : Program) (ops : Array Oper) (l : List Oper) : List COp := List.rec [] (fun o _ ih => wti P ops o :: ih) l
inductive AExit where
 | normal
 | exit (id : Nat)
 | goto (l : Nat)
 | ret
inductive Did where
 | none
 | did (v : Value) (nb : Option ABlk) (eff : Bool) (H : AH) (wr : List Nat)
abbrev wzb := FuncId → List Value → AH → Did
def idOf : Value → List Nat
 | .pointer (some a) => [a.block]
 | .slice (some a) _ _ => [a.block]
 | .map (some r) => [r]
 | .func _ _ ⟨[.map (some t)]⟩ => [t]
 | _ => []
def wnb (e : Env) : Ins → List Nat
 | .store _ x _ => idOf (evl e x)
 | .app _ _ _ s _ => idOf (evl e s)
 | .copy _ d _ => idOf (evl e d)
 | .upd _ m _ _ => idOf (evl e m)
 | .del _ m _ => idOf (evl e m)
 | .ustr _ x _ => idOf (evl e x)
 | _ => []
def wcg (cs : wzb) (wr : List Nat) (H : AH) : ARes → Did
 | .none => .none
 | .simple v .none => .did v .none false H []
 | .simple v (some b) => bif wmb H.n then .did v (some b) false (H.push b) [] else .none
 | .eff v H' => bif Nat.ble H.n H'.n then .did v .none true H' wr else .none
 | .call f args => cs f args H
def wgq (P : Program) (cs : wzb) (e : Env) (H : AH) : Option Ins → Did
 | some i => wcg cs (wnb e i) H (insA P e H H.n i)
 | none => .none
def wtn (want : Bool) : Value → Option Bool
 | .bool b => some (b == want)
 | .tuple ⟨[]⟩ => some false
 | _ => none
def gsel (g : Option (Option Tmp × Bool)) (e : Env) : Option Bool :=
 match g with
 | none => some true
 | some (some d, want) => wtn want (e.get d)
 | some (none, _) => some false
def didG (g : Option Bool) (d : Did) (H : AH) : Did := match g with
 | some true => d
 | some false => .did undef .none false H []
 | none => .none
structure Tr where
 i : Nat
 o : COp
 e : Env
 h : AH
 want : Bool
 v : Value
 nb : Option ABlk
 id : Nat
 eff : Option AH
 wr : List Nat
def looks : Option Ins → Bool
 | some i => match i with
  | .new _ _ | .box _ _ | .bslice _ _ _ _ | .load1 _ | .loadN _ _ | .slS _ _ _ _ _ _ | .lenM _ _ | .mkmap | .look _ _ _ _ _ _ | .mkslice _ _ _ _ _ _ | .b2s _ _ | .s2b _ _ | .usd _ | .topu _ _ | .frpu _ _ _ | .ustr _ _ _ => true
  | _ => false
 | none => false
def wob (n : Nat) : List Tr → AH → AH
 | [], G => { n := n, t := G.t }
 | x :: r, G => match x.nb with
  | some b => bif Nat.ble G.n x.id then wob n r { n := G.n, t := T.put b 40 G.t x.id } else wob n r G
  | none => wob n r G
def wpb : List Tr → List (Nat × AH)
 | [] => []
 | x :: r => match x.eff with
  | some G => (x.i, G) :: wpb r
  | none => wpb r
def wxl (o : Oper) (ops : Array Oper) : List Tmp :=
 o.dst.toList ++ (match o.guard with | some (j, _) => ((ops[j]?).bind (·.dst)).toList | none => []) ++ o.op.operands.toList.filterMap fun | .tmp t => some t | _ => none
def wtx (ops : Array Oper) (before : Array Nat) : Bool :=
 ops.toList.zipIdx.all fun (o, i) => (ops.toList.zipIdx.all fun (p, j) => i == j || (match p.dst with
  | none => true
  | some d => !((wxl o ops).contains d) || (before.getD (max i j) 0).testBit (min i j)))
def wyl (ops : Array Oper) : Bool := ops.toList.zipIdx.all fun (o, i) => o.after.toList.all fun e => !Region.binds .any e || Nat.blt e.on i
def wxo (ops : Array Oper) : Bool := wyl ops && wtx ops (Region.before ops)
def whe (X : AH) : List (Nat × AH) → AH
 | [] => X
 | (_, Y) :: r => whe Y r
inductive CRes where
 | tmp (t : Tmp)
 | cell1 (t : Tmp)
 | cellN (t : Tmp) (size : Nat)
 | bad
def wzl (P : Program) : ResultVar → CRes
 | .tmp t => .tmp t
 | .cell t ty => match wec P ty, tyU P ty with
  | some i, some d => bif wjf d then .cellN t i.size else .cell1 t
  | _, _ => .bad
def resV : ARes → Option Value
 | .simple v none => some v
 | _ => none
def resA (H : AH) (e : Env) : CRes → Option Value
 | .tmp t => some (e.get t)
 | .cell1 t => resV (wuj H (e.get t))
 | .cellN t size => resV (wvj H size (e.get t))
 | .bad => none
def wuh (P : Program) (H : AH) (e : Env) : List ResultVar → Option (List Value)
 | [] => some []
 | x :: r => match resA H e (wzl P x), wuh P H e r with
  | some v, some l => some (v :: l)
  | _, _ => none
def wux : List Value → Nat → T Value → T Value
 | [], _, t => t
 | v :: r, k, t => wux r (k + 1) (T.put v 40 t k)
def wmd : List Value → Value
 | [v] => v
 | l => .tuple l.toArray
abbrev KR (R : Type) := Env → AH → Option R
def opsK {R : Type} (d : Did) (dst : Option Tmp) (e : Env) (K : KR R) : Option R :=
 match d with
 | .did v _ _ H' _ => K (e.put dst v) H'
 | .none => none
def opsA {R : Type} (P : Program) (cs : wzb) (K : KR R) (l : List COp) : KR R :=
 List.rec K (fun o _ ih e H => opsK (didG (gsel o.guard e) (wgq P cs e H o.ins) H) o.dst e ih) l
def wxb (e : Env) : Ins → List Nat
 | .load1 x => idOf (evl e x)
 | .loadN _ x => idOf (evl e x)
 | .slS _ x _ _ _ _ => idOf (evl e x)
 | .lenM x _ => idOf (evl e x)
 | .look _ _ _ m _ _ => idOf (evl e m)
 | .b2s x _ => idOf (evl e x)
 | .usd x => idOf (evl e x)
 | .topu x _ => idOf (evl e x)
 | .frpu _ x _ => idOf (evl e x)
 | .ustr _ x _ => idOf (evl e x)
 | _ => []
def whab (e : Env) : Option Ins → List Nat
 | some i => wxb e i
 | none => []
structure Ti where
 i : Nat
 rd : List Nat
 eff : Option (List Nat × Nat × Nat)
def tiRd (nb : Option ABlk) (n : Nat) (l : List Nat) : List Nat := match nb with
 | some _ => n :: l
 | none => l
def tiOf (g : Option Bool) (i : Nat) (o : COp) (e : Env) (H : AH) (nb : Option ABlk) (eff : Bool) (H' : AH) (wr : List Nat) (acc : List Ti) : List Ti := match g with
 | some true => (bif eff then ⟨i, [], some (wr, H.n, H'.n)⟩ else ⟨i, tiRd nb H.n (bif looks o.ins then whab e o.ins else []), none⟩) :: acc
 | _ => acc
def wsv (p : List Nat × Nat × Nat) (id : Nat) : Bool := !(p.1.contains id) && !(Nat.ble p.2.1 id && Nat.blt id p.2.2)
def sep2 (before : Array Nat) (x y : Ti) : Bool := match x.eff, y.eff with
 | none, some p => (before.getD y.i 0).testBit x.i || ((before.getD x.i 0).testBit y.i || x.rd.all (wsv p))
 | _, _ => true
def wji (before : Array Nat) (l : List Ti) : Bool := l.all fun x => l.all fun y => sep2 before x y
def wqf (before : Array Nat) : List Ti → Bool
 | [] => true
 | x :: r => (match x.eff with
  | some _ => r.all fun y => match y.eff with
   | some _ => (before.getD y.i 0).testBit x.i
   | none => true
  | none => true) && wqf before r
def wbt {R : Type} (ops : Array Oper) (acc : List Ti) (K : KR R) (e : Env) (H : AH) : Option R :=
 bif wqf (Region.before ops) acc.reverse && wji (Region.before ops) acc then K e H else none
def opsKD {R : Type} (d : Did) (o : COp) (i : Nat) (acc : List Ti) (e : Env) (H : AH) (K : Nat → List Ti → KR R) : Option R :=
 match d with
 | .did v nb eff H' wr => K (Nat.succ i) (tiOf (gsel o.guard e) i o e H nb eff H' wr acc) (e.put o.dst v) H'
 | .none => none
def opsD {R : Type} (P : Program) (cs : wzb) (ops : Array Oper) (K : KR R) (l : List COp) : Nat → List Ti → KR R :=
 List.rec (fun _ acc e H => wbt ops acc K e H) (fun o _ ih i acc e H => opsKD (didG (gsel o.guard e) (wgq P cs e H o.ins) H) o i acc e H ih) l
def wfqb {R : Type} (P : Program) (cs : wzb) (ops : Array Oper) (K : KR R) (e : Env) (H : AH) : Option R :=
 bif wxo ops then opsD P cs ops K (wyg P ops ops.toList) 0 [] e H else none
abbrev Frs := List (Nat × Nat)
def wmr : Option (List Value × Frs) → Option (List Value × Frs) → Option (List Value × Frs)
 | some (a, f), some (b, g) => some (a ++ b, f ++ g)
 | _, _ => none
def wdf (P : Program) (b : CBlk) : Nat := match b.lens with
 | [] => (match wec P b.elem with | some i => i.size | none => 0)
 | _ => b.esz
def wiab (H : AH) (size len : Nat) (a : Addr) : Nat → Bool
 | 0 => wph size a H (len * size)
 | c + 1 => Nat.ble len c && Nat.blt 0 size
def wam (P : Program) (H : AH) (sl : List Value → Option (List Value × Frs)) (a : Addr) (len c : Nat) : Option (Value × Frs) :=
 match H.get a.block with
 | some (.cells b) =>
  bif wiab H (wdf P b) len a c && rdOk b (aver a) (a.off + len * wdf P b) then
   (match (bif b.pf then some (slotsOf b.cells a.off (len * wdf P b), []) else sl (slotsOf b.cells a.off (len * wdf P b))) with
   | some (cs, f) => bif wcb cs && wmb a.block then some (FL len cs, (a.block, a.off + len * wdf P b) :: f) else none
   | none => none)
  else none
 | _ => none
def wqd (P : Program) (H : AH) (sl : List Value → Option (List Value × Frs)) (v : Value) : Option (Value × Frs) := match v with
 | .slice none 0 0 => some (FL 0 [], [])
 | .slice (some _) 0 _ => some (FL 0 [], [])
 | .slice (some a) (n + 1) c => wam P H sl a (n + 1) c
 | .agg ⟨cs⟩ => (match sl cs with | some (l, f) => some (.agg ⟨l⟩, f) | none => none)
 | .tuple ⟨cs⟩ => (match sl cs with | some (l, f) => some (.tuple ⟨l⟩, f) | none => none)
 | .iface t v => (match sl [v] with | some ([u], f) => some (.iface t u, f) | _ => none)
 | .func (.yield n) ⟨cs⟩ ⟨[.map (some _)]⟩ => some (FL n cs, [])
 | .func (.func g) ⟨f⟩ ⟨c⟩ => (match sl f, sl c with | some (a, p), some (b, q) => some (.func (.func g) ⟨a⟩ ⟨b⟩, p ++ q) | _, _ => none)
 | v => some (v, [])
def one2 : Option (Value × Frs) → Option (List Value × Frs)
 | some (v, f) => some ([v], f)
 | none => none
def wwc (P : Program) (H : AH) (d : Nat) : List Value → Option (List Value × Frs) :=
 Nat.rec (fun _ => none) (fun _ ih l => List.rec (some ([], [])) (fun v _ r => wmr (one2 (wqd P H ih v)) r) l) d
def wjab (n : Nat) : Option ABlk → Option ABlk
 | some (.cells b) => some (.cells { b with frz := Nat.max b.frz n })
 | o => o
def frz1 (H : AH) (id n : Nat) : Option ABlk → AH
 | some b => H.set id b
 | none => H
def raise (H : AH) (l : Frs) : AH := List.rec H (fun p _ ih => frz1 ih p.1 p.2 (wjab p.2 (ih.get p.1))) l
mutual
def refs : Value → List (Nat × Nat)
 | .pointer (some a) => [(a.block, aver a)]
 | .slice (some a) n c => bif Nat.beq n 0 && Nat.ble c 1 then [] else [(a.block, aver a)]
 | .map (some r) => [(r, 0)]
 | .func fn f c => match fn with
  | .yield n => wgeb n c
  | _ => wfeb f ++ wfeb c
 | .iface _ v => refs v
 | .agg cs => wfeb cs
 | .tuple vs => wfeb vs
 | _ => []
def wfeb : Array Value → List (Nat × Nat)
 | ⟨l⟩ => wxc l
def wxc : List Value → List (Nat × Nat)
 | [] => []
 | v :: r => refs v ++ wxc r
def wgeb (n : Nat) : Array Value → List (Nat × Nat)
 | ⟨.map (some t) :: _⟩ => [(t, n)]
 | _ => []
end
mutual
def toks : Value → List Nat
 | .map (some r) => [r]
 | .func fn f c => match fn with
  | .yield _ => wieb c
  | _ => wheb f ++ wheb c
 | .iface _ v => toks v
 | .agg cs => wheb cs
 | .tuple vs => wheb vs
 | _ => []
def wheb : Array Value → List Nat
 | ⟨l⟩ => wen l
def wen : List Value → List Nat
 | [] => []
 | v :: r => toks v ++ wen r
def wieb : Array Value → List Nat
 | ⟨.map (some t) :: _⟩ => [t]
 | _ => []
end
def wjeb : List (Value × Value) → List Nat
 | [] => []
 | e :: r => toks e.2 ++ wjeb r
def wvx : Option ABlk → List Nat
 | some (.cells b) => bif b.pf then [] else wen b.cells
 | some (.map es) => wjeb es
 | _ => []
def wct : List (Value × Value) → List (Nat × Nat)
 | [] => []
 | e :: r => refs e.2 ++ wct r
def wun : Option ABlk → List (Nat × Nat)
 | some (.cells b) => bif b.pf then [] else wxc b.cells
 | some (.map es) => wct es
 | _ => []
def memN (n : Nat) : List Nat → Bool
 | [] => false
 | a :: r => bif Nat.beq a n then true else memN n r
def clo (H : AH) (d : Nat) : List Nat → List Nat → Option (List Nat) :=
 Nat.rec (fun _ _ => none) (fun _ ih done todo => List.rec (some done) (fun id r _ => bif memN id done then ih done r else ih (done ++ [id]) (r ++ (wun (H.get id)).map (·.1))) todo) d
def wse : Option ABlk → Nat
 | some (.cells b) => b.top
 | _ => 0
def isOpen : Option ABlk → Bool
 | some (.cells b) => (match b.lens with | [] => false | _ => true)
 | _ => false
def idxOf (n : Nat) : List Nat → Nat → Nat
 | [], k => k
 | a :: r, k => bif Nat.beq a n then k else idxOf n r (k + 1)
abbrev Nm := Nat → Nat → Nat × Nat
def whq : Option Nat → Nat → Option Nat
 | none, 0 => none
 | _, s => some s
def renA (m : Nm) (a : Addr) : Addr := ⟨(m a.block (aver a)).1, a.off, whq a.spot (m a.block (aver a)).2⟩
mutual
def renV (m : Nm) : Value → Value
 | .pointer (some a) => .pointer (some (renA m a))
 | .slice (some a) n c => bif Nat.beq n 0 && Nat.ble c 1 then .slice (some a) n c else .slice (some (renA m a)) n c
 | .map (some r) => .map (some (m r 0).1)
 | .func fn f c => match fn with
  | .yield n => .func (.yield n) f (renTok m n c)
  | fn => .func fn (wnr m f) (wnr m c)
 | .iface t v => .iface t (renV m v)
 | .agg cs => .agg (wnr m cs)
 | .tuple vs => .tuple (wnr m vs)
 | v => v
def wnr (m : Nm) : Array Value → Array Value
 | ⟨l⟩ => ⟨wpc m l⟩
def wpc (m : Nm) : List Value → List Value
 | [] => []
 | v :: r => renV m v :: wpc m r
def renTok (m : Nm) (n : Nat) : Array Value → Array Value
 | ⟨.map (some t) :: r⟩ => ⟨.map (some (m t n).1) :: r⟩
 | c => c
end
def renM (m : Nm) : List (Value × Value) → List (Value × Value)
 | [] => []
 | e :: r => (e.1, renV m e.2) :: renM m r
def renB (m : Nm) (cmp : Bool) : Option ABlk → Option ABlk
 | some (.cells b) => bif cmp then some (.cells { b with cells := (bif b.pf then b.cells else wpc m b.cells), lens := [b.lenAt b.top], wver := 0 })
   else some (.cells { b with cells := (bif b.pf then b.cells else wpc m b.cells) })
 | some (.map es) => some (.map (renM m es))
 | some (.tok m e z) => some (.tok m e z)
 | none => none
def addO (H : AH) : Option ABlk → AH
 | some b => H.push b
 | none => AH.rec (fun n t => wei n fun n => ⟨Nat.succ n, t⟩) H
def wdg (l : List (Option ABlk)) (H : AH) : AH := List.rec (fun H => H) (fun b _ ih H => ih (addO H b)) l H
def wiq : List Nat → Bool
 | [] => true
 | a :: r => !(memN a r) && wiq r
def wuu (H : AH) (rs : List (Nat × Nat)) (p : Nat) (ix id : Nat) : Bool :=
 Nat.ble p ix && (isOpen (H.get id) && rs.all fun r => bif Nat.beq r.1 id then Nat.beq r.2 (wse (H.get id)) else true)
def wgb (H : AH) : List Nat → List (Nat × Nat)
 | [] => []
 | id :: r => wun (H.get id) ++ wgb H r
def wmf (H : AH) : List Nat → List Nat
 | [] => []
 | id :: r => wvx (H.get id) ++ wmf H r
def wrd (H : AH) (rs : List (Nat × Nat)) (p : Nat) : List Nat → Nat → List (Nat × Bool)
 | [], _ => []
 | id :: r, ix => (id, wuu H rs p ix id) :: wrd H rs p r (ix + 1)
def wde (n : Nat) : List (Nat × Bool) → Bool
 | [] => false
 | a :: r => bif Nat.beq a.1 n then a.2 else wde n r
def nmOf (L : List Nat) (cs : List (Nat × Bool)) : Nm := fun id ver => (idxOf id L 0, bif wde id cs then 0 else ver)
def wil (H : AH) (m : Nm) : List (Nat × Bool) → List (Option ABlk)
 | [] => []
 | c :: r => renB m c.2 (H.get c.1) :: wil H m r
def AH0 : AH := ⟨0, .leaf⟩
def wdt (cs : List (Nat × Bool)) (ts : List Nat) : Bool := ts.all fun t => !wde t cs
def wyo (L : List Nat) (rs : List (Nat × Nat)) : Bool := rs.all fun r => memN r.1 L
def hasAll (H : AH) : List Nat → Bool
 | [] => true
 | id :: r => (H.get id).isSome && hasAll H r
def pins (p : Nat) : List Nat → Nat → Bool
 | [], i => Nat.ble p i
 | a :: r, i => bif Nat.blt i p then Nat.beq a i && pins p r (i + 1) else true
structure Nrm where
 L : List Nat
 m : Nm
 H : AH
def wkab (H : AH) (p : Nat) (vs : List Value) : Option (List Nat) → Option Nrm
 | some L => bif wiq L && (pins p L 0 && hasAll H L && (wyo L (wxc vs ++ wgb H L) && (wmb L.length && wdt (wrd H (wxc vs ++ wgb H L) p L 0) (wen vs ++ wmf H L)))) then
   some ⟨L, nmOf L (wrd H (wxc vs ++ wgb H L) p L 0), wdg (wil H (nmOf L (wrd H (wxc vs ++ wgb H L) p L 0)) (wrd H (wxc vs ++ wgb H L) p L 0)) AH0⟩
  else none
 | none => none
def upto (n : Nat) : List Nat := Nat.rec [] (fun k ih => ih ++ [k]) n
def wyd (H : AH) (p : Nat) (vs : List Value) : Option Nrm := wkab H p vs (clo H 100000 [] (upto p ++ (wxc vs).map (·.1)))
end
end Go.Den
namespace Go.Den
noncomputable section
variable {P : Program}
structure Post (ρ : Ren) (B : Nat) (H : AH) (w : World) (ρ' : Ren) (H' : AH) (w' : World) : Prop where
 rel : Rel ρ' B H' w'
 ext : Ext ρ H w ρ' H' w'
theorem Post.refl {ρ : Ren} {B : Nat} {H : AH} {w : World} (h : Rel ρ B H w) : Post ρ B H w ρ H w := ⟨h, .refl ρ H w⟩
theorem Post.trans {ρ ρ1 ρ2 : Ren} {B : Nat} {H H1 H2 : AH} {w w1 w2 : World} (h : Post ρ B H w ρ1 H1 w1) (h' : Post ρ1 B H1 w1 ρ2 H2 w2) (hf : Free ρ H.n H2.n) : Post ρ B H w ρ2 H2 w2 :=
 ⟨h'.rel, h.ext.trans h.rel.low h'.ext hf⟩
theorem Free.sub {ρ : Ren} {n m m' : Nat} (h : Free ρ n m') (hm : m ≤ m') : Free ρ n m := fun id ver a b => h id ver a (by omega)
def GOK (G : Nat → Option (List Value)) (ρ : Ren) : Prop := ∀ i, VR ρ (wejb (G i)) (.pointer (some ⟨i, 0, none⟩))
theorem ERel.gok {ρ : Ren} {e : Env} {a : Act} (h : ERel ρ e a) : GOK e.g.1 ρ := fun i => h.glob i
theorem GOK.cells {G : Nat → Option (List Value)} {ρ ρ' : Ren} (h : GOK G ρ) (hc : ∀ b i v, ρ.cell b i = some v → ρ'.cell b i = some v) : GOK G ρ' := by
 intro i
 refine (h i).reloc hc ?_
 cases G i <;> rfl
structure CallOK (P : Program) (G : Nat → Option (List Value)) (f : FuncId) (args : List Value) (H : AH) (v : Value) (H' : AH) (wr : List Nat) : Prop where
 n : H.n ≤ H'.n
 frame : (∀ id b, H.get id = some b → id < H.n) → (∀ id b, H'.get id = some b → id < H'.n) ∧ ∀ id, id ∉ wr → id < H.n → H'.get id = H.get id
 run : ∀ (ρ : Ren) (B : Nat) (w : World) (args' : Array Value), Rel ρ B H w → GOK G ρ → VRL ρ args args'.toList → Free ρ H.n H'.n →
  Calls P f args' w fun e w' => ∃ ρ' v', e = .returned v' ∧ VR ρ' v v' ∧ Post ρ B H w ρ' H' w'
def CSOK (P : Program) (G : Nat → Option (List Value)) (cs : wzb) : Prop := ∀ f args H v nb eff H' wr, cs f args H = .did v nb eff H' wr → nb = none ∧ eff = true ∧ CallOK P G f args H v H' wr
def wgqb (P : Program) (o : Oper) (e : Env) (H : AH) : Did → Prop
 | .none => True
 | .did v _ _ H' _ => H.n ≤ H'.n ∧ ∀ (ρ : Ren) (B : Nat) (w : World) (a : Act) (K : Act → World → Prop) (Q : Exit → Act → World → Prop), Rel ρ B H w → ERel ρ e a → Free ρ H.n H'.n →
   (∀ ρ' v' w', VR ρ' v v' → Post ρ B H w ρ' H' w' → K (a.put o.dst v') w') → o.wp P a w K Q
theorem wpg (H : AH) (b : ABlk) : (H.push b).n = H.n + 1 := by rw [AH.push_eq]
def Low (H : AH) : Prop := ∀ id b, H.get id = some b → id < H.n
theorem Low.push {H : AH} (h : Low H) (hk : wmb H.n = true) (b : ABlk) : Low (H.push b) := by
 intro id c hc
 rw [AH.get_push hk] at hc
 rw [wpg]
 split at hc
 ·omega
 ·have := h id c hc; omega
theorem step_ok {cs : wzb} {o : Oper} {e : Env} {H : AH} (hrec : CSOK P e.g.1 cs) : wgqb P o e H (wgq P cs e H (comp P o)) := by
 cases hc : comp P o with
 | none => trivial
 | some i =>
  show wgqb P o e H (wcg cs (wnb e i) H (insA P e H H.n i))
  have key := fun (ρ : Ren) (B : Nat) (w : World) (a : Act) (hR : Rel ρ B H w) (hE : ERel ρ e a) => wfq (fresh := H.n) hR hE hc
  cases hr : insA P e H H.n i with
  | none => trivial
  | simple v nb =>
   cases nb with
   | none =>
    refine ⟨Nat.le_refl _, fun ρ B w a K Q hR hE _ hK => ?_⟩
    have := key ρ B w a hR hE
    rw [hr] at this
    obtain ⟨v', h1, h2⟩ := this
    show o.upon P a K Q ((execOp a.eval o).run P w)
    rw [h1]
    exact hK ρ v' w h2 (.refl hR)
   | some b =>
    show wgqb P o e H (bif wmb H.n then .did v (some b) false (H.push b) [] else .none)
    cases hk : wmb H.n with
    | false => trivial
    | true =>
     rw [cond_true]
     refine ⟨by rw [wpg]; omega, fun ρ B w a K Q hR hE hfree hK => ?_⟩
     have := key ρ B w a hR hE
     rw [hr] at this
     obtain ⟨v', w', obj, l, h1, h2, h6, h3, h4, h5⟩ := this
     have hf : ∀ ver, ρ H.n ver = none := fun ver => hfree H.n ver (Nat.le_refl _) (by rw [wpg]; omega)
     obtain ⟨r1, r2⟩ := Ext.push hR hk h2 h3 hf (fun ρ' a b => (h4 ρ' a b).2) h5 h6
     show o.upon P a K Q ((execOp a.eval o).run P w)
     rw [h1]
     exact hK _ v' w' (h4 _ (Ren.sub_add (hf 0)) (Ren.add_self _ _ _ _)).1 ⟨r1, r2⟩
  | eff v H' =>
   show wgqb P o e H (bif Nat.ble H.n H'.n then .did v .none true H' (wnb e i) else .none)
   cases hb : Nat.ble H.n H'.n with
   | false => trivial
   | true =>
   rw [cond_true]
   have hn : H.n ≤ H'.n := Nat.le_of_ble_eq_true hb
   refine ⟨hn, fun ρ B w a K Q hR hE hfree hK => ?_⟩
   have := key ρ B w a hR hE
   rw [hr] at this
   obtain ⟨nx, v', w', ρ', h1, h2, h3, h4, h5⟩ := this hfree
   show o.upon P a K Q ((execOp a.eval o).run P w)
   rw [h1]
   unfold outOf at h2
   split at h2
   ·cases h2; exact hK ρ' _ w' h3 ⟨h4, h5⟩
   ·cases h2; exact hK ρ' _ w' h3 ⟨h4, h5⟩
   ·cases h2
  | call f args =>
   show wgqb P o e H (cs f args H)
   cases hq : cs f args H with
   | none => trivial
   | did v nb eff H' wr =>
    obtain ⟨_, _, hcall⟩ := hrec _ _ _ _ _ _ _ _ hq
    refine ⟨hcall.n, fun ρ B w a K Q hR hE hfree hK => ?_⟩
    have := key ρ B w a hR hE
    rw [hr] at this
    obtain ⟨args', h1, h2⟩ := this
    show o.upon P a K Q ((execOp a.eval o).run P w)
    rw [h1]
    refine (hcall.run ρ B w args' hR hE.gok h2 hfree).mono ?_
    rintro ex w' ⟨ρ', v', rfl, h3, h4⟩
    exact hK ρ' v' w' h3 h4
theorem wlab {ρ : Ren} {x x' : Value} {want b : Bool} (h : VR ρ x x') (hg : wtn want x = some b) : (x' = .bool (if want then b else !b)) ∨ (x' = undef ∧ b = false) := by
 unfold wtn at hg
 split at hg
 ·rename_i c
  cases hg
  left
  rw [h.bool_inv]
  cases c <;> cases want <;> rfl
 ·cases hg
  right
  exact ⟨h.of_flat rfl, rfl⟩
 ·cases hg
theorem wkeb {ρ : Ren} {e : Env} {a : Act} (hE : ERel ρ e a) (ops : Array Oper) (o : Oper) {b : Bool} (hg : gsel (woc ops o.guard) e = some b) : Region.wanted o (yielded ops a.tmps) = b := by
 unfold woc gsel at hg
 unfold Region.wanted
 cases hq : o.guard with
 | none => rw [hq] at hg; cases hg; rfl
 | some p =>
  obtain ⟨j, want⟩ := p
  rw [hq] at hg
  dsimp only at hg
  simp only [yielded]
  cases hd : (ops[j]?).bind (·.dst) with
  | none => rw [hd] at hg; cases hg; simp
  | some d =>
   rw [hd] at hg
   simp only [Option.bind_some]
   have hv := hE.get d
   by_cases hlt : d < a.tmps.size
   ·have e1 : a.tmps[d]? = some a.tmps[d] := Array.getElem?_eq_getElem hlt
    have e2 : a.tmps.getD d undef = a.tmps[d] := by simp [hlt]
    rw [e1]
    rw [e2] at hv
    rcases wlab hv hg with h1 | ⟨h1, rfl⟩
    ·rw [h1]; cases b <;> cases want <;> rfl
    ·rw [h1]; rfl
   ·have e1 : a.tmps[d]? = none := Array.getElem?_eq_none (Nat.le_of_not_lt hlt)
    have e2 : a.tmps.getD d undef = undef := by simp [hlt]
    rw [e1]
    rw [e2] at hv
    rcases wlab hv hg with h1 | ⟨_, rfl⟩
    ·exact absurd h1 (by simp [undef])
    ·rfl
theorem whqb {R : Type} (P : Program) (cs : wzb) (K : KR R) (o : COp) (r : List COp) (e : Env) (H : AH) :
  opsA P cs K (o :: r) e H = opsK (didG (gsel o.guard e) (wgq P cs e H o.ins) H) o.dst e (opsA P cs K r) := rfl
theorem wmab (P : Program) (ops : Array Oper) (o : Oper) (r : List Oper) : wyg P ops (o :: r) = wti P ops o :: wyg P ops r := rfl
theorem wiqb {R : Type} {d : Did} {dst : Option Tmp} {e : Env} {K : KR R} {r : R} (h : opsK d dst e K = some r) : ∃ v nb eff H' wr, d = .did v nb eff H' wr ∧ K (e.put dst v) H' = some r := by
 unfold opsK at h
 split at h
 ·exact ⟨_, _, _, _, _, rfl, h⟩
 ·cases h
theorem wnab {g : Option Bool} {d : Did} {H : AH} {v : Value} {nb : Option ABlk} {eff : Bool} {H' : AH} {wr : List Nat} (h : didG g d H = .did v nb eff H' wr) :
  (g = some true ∧ d = .did v nb eff H' wr) ∨ (g = some false ∧ v = undef ∧ nb = none ∧ eff = false ∧ H' = H ∧ wr = []) := by
 unfold didG at h
 split at h
 ·exact .inl ⟨rfl, h⟩
 ·cases h; exact .inr ⟨rfl, rfl, rfl, rfl, rfl, rfl⟩
 ·cases h
theorem ops_ok {R : Type} {cs : wzb} {G : Nat → Option (List Value)} (hrec : CSOK P G cs) (ops : Array Oper) {K : KR R} {r : R} : ∀ (l : List Oper) (k : Nat) (e : Env) (H : AH), e.g.1 = G → ops.toList.drop k = l → opsA P cs K (wyg P ops l) e H = some r →
  ∃ e' H', K e' H' = some r ∧ e'.g = e.g ∧ e'.n = e.n ∧ H.n ≤ H'.n ∧ ∀ (ρ : Ren) (B : Nat) (w : World) (a : Act) (Q : Exit → Act → World → Prop), Rel ρ B H w → ERel ρ e a → Free ρ H.n H'.n →
   (∀ ρ' a' w', ERel ρ' e' a' → Post ρ B H w ρ' H' w' → Q .normal a' w') → wpOps P ops Q (List.range' k l.length) a w := by
 intro l
 induction l with
 | nil =>
  intro k e H _ _ h
  exact ⟨e, H, h, rfl, rfl, Nat.le_refl _, fun ρ B w a Q hR hE _ hQ => hQ ρ a w hE (.refl hR)⟩
 | cons o l ih =>
  intro k e H hge hd h
  have hk : ops[k]? = some o := by
   have : (ops.toList.drop k)[0]? = some o := by rw [hd]; rfl
   simpa using this
  have hd' : ops.toList.drop (k + 1) = l := by
   have : (ops.toList.drop k).drop 1 = l := by rw [hd]; rfl
   rw [List.drop_drop] at this
   exact this
  rw [wmab, whqb] at h
  have hguard : (wti P ops o).guard = woc ops o.guard := rfl
  have hdst : (wti P ops o).dst = o.dst := rfl
  have hins : (wti P ops o).ins = comp P o := rfl
  rw [hguard, hdst, hins] at h
  obtain ⟨v, nb, eff, H1, wr, h1, h2⟩ := wiqb h
  obtain ⟨e', H', h3, hge', hne', h4, h5⟩ := ih (k + 1) _ _ (by rw [Env.put_g]; exact hge) hd' h2
  rw [Env.put_g] at hge'
  rw [Env.put_n] at hne'
  rcases wnab h1 with ⟨hg, hs⟩ | ⟨hg, rfl, rfl, rfl, rfl, rfl⟩
  ·have hstep := step_ok (o := o) (e := e) (H := H) (hge ▸ hrec)
   rw [hs] at hstep
   obtain ⟨h6, h7⟩ := hstep
   refine ⟨e', H', h3, hge', hne', Nat.le_trans h6 h4, fun ρ B w a Q hR hE hf hQ => ?_⟩
   rw [List.length_cons, List.range'_succ]
   simp only [wpOps, hk]
   rw [wkeb hE ops o hg]
   refine .inl (h7 ρ B w a _ Q hR hE (hf.sub h4) fun ρ1 v' w1 hv hp => ?_)
   refine h5 ρ1 B w1 _ Q hp.rel ((hE.mono hp.ext.sub).put hv o.dst) (hf.next hR.low hp.ext) fun ρ2 a2 w2 he2 hp2 => ?_
   exact hQ ρ2 a2 w2 he2 (hp.trans hp2 hf)
  ·refine ⟨e', H', h3, hge', hne', h4, fun ρ B w a Q hR hE hf hQ => ?_⟩
   rw [List.length_cons, List.range'_succ]
   simp only [wpOps, hk]
   rw [wkeb hE ops o hg]
   exact h5 ρ B w _ Q hR (hE.put (.flat wwg) o.dst) hf hQ
def woab (tmps : Array Value) : ResultVar → Sem Value
 | .tmp t => pure (tmps.getD t undef)
 | .cell b t => do loadVar t (← asAddr (tmps.getD b undef))
theorem res1_ok {H : AH} {e : Env} {x : ResultVar} {v : Value} (h1 : resA H e (wzl P x) = some v) {ρ : Ren} {B : Nat} {w : World} {a : Act} (hR : Rel ρ B H w) (hE : ERel ρ e a) : ∃ v', (woab a.tmps x).run P w = .ok v' w ∧ VR ρ v v' := by
 cases x with
 | tmp t => cases h1; exact ⟨_, rfl, hE.get t⟩
 | cell b t =>
  simp only [wzl] at h1
  split at h1
  ·rename_i ti d hti htd
   cases hd : wjf d with
   | true =>
    rw [hd, cond_true] at h1
    simp only [resA] at h1
    rcases wul H ti.size (e.get b) with h0 | ⟨y, h0⟩
    ·rw [h0] at h1; cases h1
    ·rw [h0] at h1
     cases h1
     obtain ⟨p, y', g1, g2, g3⟩ := wyz hR htd hti hd (hE.get b) h0
     exact ⟨y', by simp only [woab, g1]; simp [asAddr, g2], g3⟩
   | false =>
    rw [hd, cond_false] at h1
    simp only [resA] at h1
    rcases wtl H (e.get b) with h0 | ⟨y, h0⟩
    ·rw [h0] at h1; cases h1
    ·rw [h0] at h1
     cases h1
     obtain ⟨p, y', g1, g2, g3⟩ := wxz hR htd hd (hE.get b) h0
     exact ⟨y', by simp only [woab, g1]; simp [asAddr, g2], g3⟩
  ·cases h1
theorem whkb {H : AH} {e : Env} : ∀ (l : List ResultVar) (vs : List Value), wuh P H e l = some vs → ∀ (ρ : Ren) (B : Nat) (w : World) (a : Act), Rel ρ B H w → ERel ρ e a →
  ∃ vs', (l.mapM (woab a.tmps)).run P w = .ok vs' w ∧ VRL ρ vs vs' := by
 intro l
 induction l with
 | nil => intro vs h ρ B w a _ _; cases h; exact ⟨[], by simp, .nil ρ⟩
 | cons x r ih =>
  intro vs h ρ B w a hR hE
  simp only [wuh] at h
  split at h
  ·rename_i v l h1 h2
   cases h
   obtain ⟨vs', h3, h4⟩ := ih l h2 ρ B w a hR hE
   obtain ⟨v', h5, h6⟩ := res1_ok h1 hR hE
   refine ⟨v' :: vs', ?_, .cons h6 h4⟩
   rw [List.mapM_cons]
   simp only [Sem.run_bind, h5, Result.andThen_ok, h3, Sem.run_pure]
  ·cases h
theorem wvu {ρ : Ren} {vs vs' : List Value} (h : VRL ρ vs vs') : VR ρ (wmd vs) (if h : vs'.toArray.size = 1 then vs'.toArray[0] else .tuple vs'.toArray) := by
 cases vs with
 | nil => rw [h.unnil]; exact .flat rfl
 | cons v r =>
  obtain ⟨v', r', rfl, h1, h2⟩ := h.uncons
  cases r with
  | nil => rw [h2.unnil]; exact h1
  | cons v2 r2 =>
   obtain ⟨v2', r2', rfl, h3, h4⟩ := h2.uncons
   have : ¬ (v' :: v2' :: r2').toArray.size = 1 := by simp
   rw [dif_neg this]
   exact .tuple_mk (by simpa using h)
theorem wleb {H : AH} {e : Env} {fn : Func} {vs : List Value} (h : wuh P H e fn.results.toList = some vs) {ρ : Ren} {B : Nat} {w : World} {a : Act} (hR : Rel ρ B H w) (hE : ERel ρ e a) :
  ∃ v', (results fn a.tmps).run P w = .ok v' w ∧ VR ρ (wmd vs) v' := by
 obtain ⟨vs', h1, h2⟩ := whkb fn.results.toList vs h ρ B w a hR hE
 refine ⟨_, ?_, wvu h2⟩
 have e1 : (fun x => match x with
  | ResultVar.tmp t => pure (a.tmps.getD t undef)
  | ResultVar.cell b t => (do loadVar t (← asAddr (a.tmps.getD b undef)) : Sem Value)) = woab a.tmps := by funext x; cases x <;> rfl
 unfold results
 rw [Array.mapM_eq_mapM_toList]
 show ((List.toArray <$> fn.results.toList.mapM (fun x => match x with
  | ResultVar.tmp t => pure (a.tmps.getD t undef)
  | ResultVar.cell b t => (do loadVar t (← asAddr (a.tmps.getD b undef)) : Sem Value))) >>= fun vs => pure (if h : vs.size = 1 then vs[0] else .tuple vs)).run P w = _
 rw [e1]
 simp only [bind_map_left, Sem.run_bind, h1, Result.andThen_ok]
 rfl
end
end Go.Den
namespace Go.Den
noncomputable section
structure Cfg where
 raw : FuncId → Bool × Bool
 own : FuncId → Bool
 live : FuncId → Nat → Option (List Tmp × List Tmp × Nat)
 glob : Nat → Option (List Value)
 know : FuncId → Option (List Value → Option Value)
inductive Task where
 | call (f : FuncId) (args : List Value)
 | loop (f : FuncId) (p : Nat) (c : Code) (e : Env)
inductive Out where
 | code (x : AExit) (e : Env)
 | val (v : Value)
abbrev Rec := Task → AH → Option (Out × AH)
mutual
def beqV : Value → Value → Bool
 | .bool a, .bool b => a == b
 | .int k a, .int j b => sameKind k j && eqF a b
 | .float k a, .float j b => k == j && Nat.beq a b
 | .complex k a c, .complex j b d => k == j && (Nat.beq a b && Nat.beq c d)
 | .string a, .string b => a.data.toList == b.data.toList
 | .pointer none, .pointer none => true
 | .pointer (some a), .pointer (some b) => Nat.beq a.block b.block && (Nat.beq a.off b.off && a.spot == b.spot)
 | .slice none l c, .slice none m d => Nat.beq l m && Nat.beq c d
 | .slice (some a) l c, .slice (some b) m d => Nat.beq a.block b.block && (Nat.beq a.off b.off && (a.spot == b.spot && (Nat.beq l m && Nat.beq c d)))
 | .map a, .map b => a == b
 | .nilFunc, .nilFunc => true
 | .nilIface, .nilIface => true
 | .func f a c, .func g b d => f == g && (beqA a b && beqA c d)
 | .iface t a, .iface u b => Nat.beq t u && beqV a b
 | .agg a, .agg b => beqA a b
 | .tuple a, .tuple b => beqA a b
 | _, _ => false
def beqA : Array Value → Array Value → Bool
 | ⟨a⟩, ⟨b⟩ => beqL a b
def beqL : List Value → List Value → Bool
 | [], [] => true
 | a :: r, b :: s => beqV a b && beqL r s
 | _, _ => false
end
def beqP : List (Value × Value) → List (Value × Value) → Bool
 | [], [] => true
 | a :: r, b :: s => beqV a.1 b.1 && (beqV a.2 b.2 && beqP r s)
 | _, _ => false
def beqC (a b : CBlk) : Bool := beqL a.cells b.cells && (Nat.beq a.elem b.elem && (Nat.beq a.esz b.esz && (a.lens == b.lens && (Nat.beq a.wver b.wver && (Nat.beq a.frz b.frz && (a.mark == b.mark && a.pf == b.pf))))))
def beqB : ABlk → ABlk → Bool
 | .cells a, .cells b => beqC a b
 | .map a, .map b => beqP a b
 | .tok a b c, .tok d e f => Nat.beq a d && (Nat.beq b e && Nat.beq c f)
 | _, _ => false
def wpab : Option ABlk → Option ABlk → Bool
 | some a, some b => beqB a b
 | _, _ => false
def changed (H1 H3 : AH) (L : List Nat) : List Nat := L.filter fun id => !wpab (H1.get id) (H3.get id)
def getN : List Nat → Nat → Nat
 | [], _ => 0
 | a :: r, k => Nat.rec a (fun j _ => getN r j) k
def wqh (H : AH) : List (Nat × Bool) → List Nat
 | [] => []
 | c :: r => (bif c.2 then wse (H.get c.1) else 0) :: wqh H r
def wbm (n k : Nat) (L tops : List Nat) : Nm := fun ix s => bif Nat.blt ix k then (getN L ix, bif Nat.beq (getN tops ix) 0 then s else Nat.add (getN tops ix) s) else (Nat.add n (Nat.sub ix k), s)
def zeros (n : Nat) : List Nat := Nat.rec [] (fun _ ih => 0 :: ih) n
def wikb : Option ABlk → Nat
 | some (.cells b) => b.frz
 | _ => 0
def wuf (m : Nm) (cmp : Bool) (t0 f0 : Nat) : Option ABlk → Option ABlk
 | some (.cells b) => bif cmp then some (.cells { b with cells := (bif b.pf then b.cells else wpc m b.cells), lens := b.lens ++ zeros t0, wver := Nat.add t0 b.wver, frz := Nat.max f0 b.frz })
   else some (.cells { b with cells := (bif b.pf then b.cells else wpc m b.cells) })
 | some (.map es) => some (.map (renM m es))
 | some (.tok m e z) => some (.tok m e z)
 | none => none
def setO (H : AH) (id : Nat) : Option ABlk → AH
 | some b => H.set id b
 | none => H
def wui (m : Nm) (H1 Hc : AH) : List (Nat × Bool) → Nat → AH → AH
 | [], _, H => H
 | c :: r, ix, H => wui m H1 Hc r (ix + 1) (setO H c.1 (wuf m c.2 (wse (H1.get c.1)) (wikb (H1.get c.1)) (Hc.get ix)))
def news (m : Nm) (Hc : AH) (k d : Nat) (H : AH) : AH := Nat.rec (fun _ H => H) (fun _ ih k H => ih (Nat.succ k) (addO H (wuf m false 0 0 (Hc.get k)))) d k H
def isNil : List Nat → Bool
 | [] => true
 | _ => false
def wjl (l : Frs) : List Nat := l.map (·.1)
def wet (L : List Nat) : Bool := L.all wmb
def wlk (Hc : AH) : List (Nat × Bool) → Nat → Bool
 | [], _ => true
 | c :: r, ix => (bif c.2 then isOpen (Hc.get ix) else true) && wlk Hc r (ix + 1)
def wmk (Hc : AH) (d : Nat) : Nat → List Nat := Nat.rec (fun _ => []) (fun _ ih k => wvx (Hc.get k) ++ ih (Nat.succ k)) d
def wft (k : Nat) (tops ts : List Nat) : Bool := ts.all fun t => bif Nat.blt t k then Nat.beq (getN tops t) 0 else true
def wrh (H1 : AH) (fr : Frs) (L : List Nat) (cs : List (Nat × Bool)) (v : Value) (Hc : AH) : Did :=
 bif wet L && (Nat.ble L.length Hc.n && (wmb (H1.n + Hc.n) && (wft L.length (wqh H1 cs) (toks v ++ wmk Hc Hc.n 0) && (wlk Hc cs 0 && hasAll Hc (upto L.length))))) then
  .did (renV (wbm H1.n L.length L (wqh H1 cs)) v) none true
   (news (wbm H1.n L.length L (wqh H1 cs)) Hc L.length (Hc.n - L.length) (wui (wbm H1.n L.length L (wqh H1 cs)) H1 Hc cs 0 H1))
   (changed H1 (news (wbm H1.n L.length L (wqh H1 cs)) Hc L.length (Hc.n - L.length) (wui (wbm H1.n L.length L (wqh H1 cs)) H1 Hc cs 0 H1)) L ++ wjl fr)
 else .none
def wzo (H H1 : AH) (fr : Frs) (L : List Nat) (cs : List (Nat × Bool)) : Option (Out × AH) → Did
 | some (.val v, Hc) => bif isNil L && flat v then .did v none true H [] else wrh H1 fr L cs v Hc
 | _ => .none
def wtv (rec : Rec) (f : FuncId) (H H1 : AH) (fr : Frs) (a : List Value) : Option Nrm → Did
 | some N => wzo H H1 fr N.L (wrd H1 (wxc a ++ wgb H1 N.L) 0 N.L 0) (rec (.call f (wpc N.m a)) N.H)
 | none => .none
def wgt (rec : Rec) (f : FuncId) (H : AH) : Option (List Value × Frs) → Did
 | some (a, fr) => wtv rec f H (raise H fr) fr a (wyd (raise H fr) 0 a)
 | none => .none
def callG (rec : Rec) (f : FuncId) (H : AH) (a : List Value) (fr : Frs) : Option Value → Did
 | some v => .did v none true (raise H fr) (wjl fr)
 | none => wgt rec f H (some (a, fr))
def wzg (rec : Rec) (f : FuncId) (H : AH) (s : Option (List Value × Frs)) : Option (List Value → Option Value) → Did
 | none => wgt rec f H s
 | some g => match s with
  | some (a, fr) => callG rec f H a fr (g a)
  | none => .none
def callS (P : Program) (cfg : Cfg) (rec : Rec) : wzb := fun f args H =>
 wzg rec f H (bif (cfg.raw f).1 then some (args, []) else wwc P H 20 args) (cfg.know f)
def evs (e : Env) : List Tmp → List Value
 | [] => []
 | t :: r => e.get t :: evs e r
def putL (lv : List Tmp) (vs : List Value) (t : T Value) : T Value := match lv, vs with
 | k :: r, v :: s => putL r s (T.put v 40 t k)
 | _, _ => t
def wjkb : Nat → T Value → T Value := fun n => Nat.rec (fun t => t) (fun k ih t => ih (T.put JK 40 t k)) n
def envL (n : Nat) (g : (Nat → Option (List Value)) × Bool) (lv : List Tmp) (vs : List Value) : Env := ⟨n, putL lv vs (wjkb n .leaf), g⟩
def wwu (H : AH) (k d : Nat) : List (Option ABlk) := Nat.rec (fun _ => []) (fun _ ih k => H.get k :: ih (Nat.succ k)) d k
abbrev KC (R : Type) := AExit → Env → AH → Option R
def lvOk (n : Nat) (l : List Tmp) : Bool := l.all fun t => Nat.blt t n
def wjqb {R : Type} (n : Nat) (g : (Nat → Option (List Value)) × Bool) (outs : List Tmp) (k : Nat) (K : KC R) : Option (Out × AH) → Option R
 | some (.code x e, H) => bif Nat.beq k 999999 then K x (envL n g outs (evs e outs)) H else (bif Nat.beq H.n k && wmb k then K x (envL n g outs (evs e outs)) (wdg (wwu H 0 k) AH0) else none)
 | _ => none
def wshb {R : Type} (K : KC R) : Option (Out × AH) → Option R
 | some (.code x e, H) => K x e H
 | _ => none
def wmeb {R : Type} (rec : Rec) (f : FuncId) (p : Nat) (c : Code) (n : Nat) (g : (Nat → Option (List Value)) × Bool) (ins outs : List Tmp) (k : Nat) (vs : List Value) (K : KC R) : Option Nrm → Option R
 | some N => wjqb n g outs k K (rec (.loop f p c (envL n g ins (wpc N.m vs))) N.H)
 | none => none
def wxu {R : Type} (rec : Rec) (f : FuncId) (p : Nat) (c : Code) (e : Env) (H : AH) (K : KC R) : Option (List Tmp × List Tmp × Nat) → Option R
 | some (ins, outs, k) => bif lvOk e.n ins && lvOk e.n outs then wmeb rec f p c e.n e.g ins outs k (evs e ins) K (wyd H p (evs e ins)) else none
 | none => wshb K (rec (.loop f p c e) H)
def wqc : Code → Nat
 | .region id _ _ => id
 | .seq a _ => wqc a
 | .block _ c => wqc c
 | .loop c => wqc c
 | _ => 0
def wqab {R : Type} (v : Value) (a b : Option R) : Option R := match v with
 | .bool true => a
 | .bool false => b
 | _ => none
def seqK {R : Type} (K1 : KR R) (K : KC R) : KC R := fun x e H => match x with
 | .normal => K1 e H
 | x => K x e H
def wap {R : Type} (id : Nat) (K : KC R) : KC R := fun x e H => match x with
 | .exit j => bif Nat.beq j id then K .normal e H else K (.exit j) e H
 | x => K x e H
def wkl {R : Type} (P : Program) (cfg : Cfg) (f : FuncId) (p : Nat) (rec : Rec) (c : Code) : KC R → KR R :=
 match c with
 | .skip => fun K e H => K .normal e H
 | .label _ => fun K e H => K .normal e H
 | .ret => fun K e H => K .ret e H
 | .exit id => fun K e H => K (.exit id) e H
 | .goto l => fun K e H => K (.goto l) e H
 | .region _ ops draw => fun K e H => bif draw then wfqb P (callS P cfg rec) ops (K .normal) e H else opsA P (callS P cfg rec) (K .normal) (wyg P ops ops.toList) e H
 | .seq a b => fun K e H => wkl P cfg f p rec a (seqK (wkl P cfg f p rec b K) K) e H
 | .cond c a b => fun K e H => bif wic c then wqab (evl e c) (wkl P cfg f p rec a K e H) (wkl P cfg f p rec b K e H) else none
 | .block id c => fun K e H => wkl P cfg f p rec c (wap id K) e H
 | .loop c => fun K e H => wxu rec f p c e H K (cfg.live f (wqc c))
 | _ => fun _ _ _ => none
def outK : Option Nrm → Value → Option (Out × AH)
 | some N, v => some (.val (renV N.m v), N.H)
 | none, _ => none
def wkkb (p : Nat) (H : AH) : Option (List Value × Frs) → Option (Out × AH)
 | some ([v], fr) => outK (wyd (raise H fr) p [v]) v
 | _ => none
def valK (P : Program) (raw : Bool) (p : Nat) (H : AH) : Option (List Value) → Option (Out × AH)
 | some l => wkkb p H (bif raw then some ([wmd l], []) else wwc P H 20 [wmd l])
 | none => none
def isEnd : AExit → Bool
 | .normal | .ret => true
 | _ => false
def retK (P : Program) (raw : Bool) (p : Nat) (rs : List ResultVar) : KC (Out × AH) := fun x e H => bif isEnd x then valK P raw p H (wuh P H e rs) else none
def wkqb (P : Program) (cfg : Cfg) (rec : Rec) (f : FuncId) (args : List Value) (H : AH) : Option Func → Option (Out × AH)
 | some fn => match fn.body with
  | some c => bif Nat.ble args.length fn.ntmps && wmb fn.ntmps then
    wkl P cfg f H.n rec c (retK P (cfg.raw f).2 H.n fn.results.toList) { n := fn.ntmps, t := wux args 0 .leaf, g := (cfg.glob, cfg.own f) } H else none
  | none => none
 | none => none
def wzf (ins outs : List Tmp) (n : Nat) (g : (Nat → Option (List Value)) × Bool) (rec : Rec) (f : FuncId) (p : Nat) (c : Code) (x : AExit) (e : Env) (H : AH) : Option (Out × AH) := match x with
 | .normal => (match wyd H p (evs e ins) with
  | some N => rec (.loop f p c (envL n g ins (wpc N.m (evs e ins)))) N.H
  | none => none)
 | x => (match wyd H p (evs e outs) with
  | some N => some (.code x (envL n g outs (wpc N.m (evs e outs))), N.H)
  | none => none)
def wki (rec : Rec) (f : FuncId) (p : Nat) (c : Code) : Option (List Tmp × List Tmp × Nat) → KC (Out × AH)
 | some (ins, outs, _), x, e, H => bif lvOk e.n ins && lvOk e.n outs then wzf ins outs e.n e.g rec f p c x e H else none
 | none, .normal, e, H => rec (.loop f p c e) H
 | none, x, e, H => some (.code x e, H)
def wht (P : Program) (cfg : Cfg) (rec : Rec) (task : Task) (H : AH) : Option (Out × AH) :=
 match task with
 | .call f args => wkqb P cfg rec f args H P.funcs[f]?
 | .loop f p c e => wkl P cfg f p rec c (wki rec f p c (cfg.live f (wqc c))) e H
def den (P : Program) (cfg : Cfg) (n : Nat) : Task → AH → Option (Out × AH) := Nat.rec (fun _ _ => none) (fun _ ih => wht P cfg ih) n
end
end Go.Den
