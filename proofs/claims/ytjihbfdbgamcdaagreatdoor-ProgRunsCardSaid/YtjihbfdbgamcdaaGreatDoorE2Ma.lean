/-
  THE ENGINE, part Ma: rows that grow and are frozen as far as they go.
-/
import Derived.Test.YtjihbfdbgamcdaaGreatDoorE2M
namespace Go.Den
noncomputable section

variable {P : Program}

mutual
theorem nfV_rel {ρ : Ren} : ∀ (v v' : Value), VR ρ v v' → VR ρ (nfV v) v'
  | .slice a n c, v', h => by
    cases n with
    | succ n => exact h
    | zero =>
      simp only [nfV]
      cases hq : Nat.ble c 1 with
      | false => exact h
      | true =>
        rw [cond_true]
        cases a with
        | none => rw [h.of_flat rfl]; exact .listNo
        | some a => obtain ⟨a', c', rfl⟩ := h.slice_len; exact .listNo
  | .iface t v, v', h => by
    simp only [nfV]
    cases h with
    | flat hf =>
      simp only [Go.Den.flat] at hf
      exact .iface (nfV_rel v v (.flat hf))
    | iface h => exact .iface (nfV_rel v _ h)
  | .agg ⟨cs⟩, v', h => by
    simp only [nfV]
    obtain ⟨cs', rfl, h2⟩ := h.agg_inv
    exact .agg_mk (nfL_rel cs _ h2)
  | .tuple ⟨cs⟩, v', h => by
    simp only [nfV]
    obtain ⟨cs', rfl, h2⟩ := h.tuple_inv
    exact .tuple_mk (nfL_rel cs _ h2)
  | .bool _, _, h => h
  | .int _ _, _, h => h
  | .float _ _, _, h => h
  | .complex _ _ _, _, h => h
  | .string _, _, h => h
  | .pointer _, _, h => h
  | .map _, _, h => h
  | .chan _, _, h => h
  | .func _ _ _, _, h => h
  | .nilFunc, _, h => h
  | .nilIface, _, h => h
theorem nfL_rel {ρ : Ren} : ∀ (l l' : List Value), VRL ρ l l' → VRL ρ (nfL l) l'
  | [], l', h => h
  | v :: r, l', h => by
    obtain ⟨v', r', rfl, h1, h2⟩ := h.uncons
    simp only [nfL]
    exact .cons (nfV_rel v v' h1) (nfL_rel r r' h2)
end

theorem get_lt {α : Type} {l : List α} {i : Nat} {v : α} (e : l[i]? = some v) : i < l.length := by
  rcases Nat.lt_or_ge i l.length with h | h
  · exact h
  · rw [List.getElem?_eq_none h] at e; cases e

/-- A frozen row that an append makes. -/
theorem freshTok_ok {ρ : Ren} {B : Nat} {H : AH} {w : World} (hR : Rel ρ B H w) {elem : TypeId} {ti : TypeInfo} {z : Value} {s : Sem Next} {fresh n cap : Nat} {cs : List Value} {arr : Array Value} (hz : z.cells.size = ti.size)
    (hlen : cs.length = n * ti.size) (hn : n ≤ cap) (hrel : VRL ρ cs arr.toList) (hrun : s.run P w = .ok (.value (.slice (some ⟨w.heap.size, 0, none⟩) n cap)) (w.drew.alloc (.cells (arr ++ Builtin.zeroCells z.cells (cap - n)) elem))) :
    ResOK P ρ B H w s fresh (freshTok H elem ti.size cs n) := by
  unfold freshTok
  cases hq : tokOk H cs with
  | false => rw [cond_false]; trivial
  | true =>
    rw [cond_true]
    simp only [tokOk, Bool.and_eq_true] at hq
    obtain ⟨hno, _, hk⟩ := hq
    rw [noRefsL_iff] at hno
    intro hfree
    have hf : ∀ ver, ρ H.n ver = none := fun ver => hfree H.n ver (Nat.le_refl _) (by rw [AH.push_eq]; exact Nat.lt_succ_self _)
    have has : arr.size = cs.length := by have := hrel.1; simpa using this.symm
    have hsz : (arr ++ Builtin.zeroCells z.cells (cap - n)).size = cap * ti.size := by
      rw [Array.size_append, zeroCells_size, hz, has, hlen, ← Nat.add_mul]
      congr 1
      omega
    generalize hw2 : w.drew.alloc (.cells (arr ++ Builtin.zeroCells z.cells (cap - n)) elem) = w2 at hrun
    have hp : w2.heap = w.heap.push (.cells (arr ++ Builtin.zeroCells z.cells (cap - n)) elem (0, 0)) := by rw [← hw2]; rfl
    have hsame : w2.os = w.os ∧ w2.output = w.output := by rw [← hw2]; exact ⟨rfl, rfl⟩
    have hget2 : w2.heap[w.heap.size]? = some (.cells (arr ++ Builtin.zeroCells z.cells (cap - n)) elem (0, 0)) := by rw [hp]; simp
    have hsz2 : w2.heap.size = w.heap.size + 1 := by rw [hp]; simp
    let L : Loc := ⟨w.heap.size, cap, ti.size⟩
    let ρ' : Ren := ⟨(ρ.add H.n n L).loc, fun b i => if b = w.heap.size ∧ i < cs.length then arr[i]? else ρ.cell b i⟩
    have hcellold : ∀ b i v, ρ.cell b i = some v → ρ'.cell b i = some v := by
      intro b i v h
      have := hR.fz.lt h
      show (if b = w.heap.size ∧ i < cs.length then arr[i]? else ρ.cell b i) = some v
      rw [if_neg (by omega)]
      exact h
    have hs : Sub ρ ρ' := ⟨(Ren.sub_add (hf n)).loc, hcellold⟩
    have hcase : ∀ id ver l, ρ' id ver = some l → (id = H.n ∧ ver = n ∧ l = L) ∨ ρ id ver = some l := fun id ver l h => Ren.add_cases h
    have hself : ρ' H.n n = some L := Ren.add_self ρ H.n n L
    have hcellnew : ∀ i, i < cs.length → ∃ v, arr[i]? = some v ∧ ρ'.cell w.heap.size i = some v := by
      intro i hi
      refine ⟨arr[i]'(by omega), Array.getElem?_eq_getElem (by omega), ?_⟩
      show (if w.heap.size = w.heap.size ∧ i < cs.length then arr[i]? else ρ.cell w.heap.size i) = _
      rw [if_pos ⟨rfl, hi⟩]
      exact Array.getElem?_eq_getElem (by omega)
    have hg := fun i => AH.get_push (H := H) hk (.tok n elem ti.size) i
    have hhn : (H.push (.tok n elem ti.size)).n = H.n + 1 := by rw [AH.push_eq]
    have hB := hR.base
    have hRel : Rel ρ' B (H.push (.tok n elem ti.size)) w2 := by
      refine ⟨?_, ?_, ?_, ?_, ?_, by omega, ⟨?_, ?_⟩⟩
      · intro id ver l b hl hb
        rw [hg] at hb
        rcases hcase id ver l hl with ⟨rfl, rfl, rfl⟩ | hl
        · rw [if_pos rfl] at hb
          cases hb
          refine ⟨Nat.le_refl _, rfl, fun _ => ⟨?_, hn, ?_, ?_⟩⟩
          · simp only [World.shape?, L, hget2, hsz]
          · intro i _ _
            simp only [World.frozen?, L, hget2]
            simp
          · simp only [hiOf, L, hget2]
            exact Nat.zero_le _
        · by_cases hi : id = H.n
          · subst hi; rw [hf] at hl; cases hl
          · rw [if_neg hi] at hb
            have hbd := (hR.bnd _ _ _ hl).2
            exact (hR.blk _ _ _ _ hl hb).keep hs (by rw [hp, Array.getElem?_push, if_neg (by omega)])
      · intro i c hc
        rw [hg] at hc
        split at hc
        · cases hc
        · exact hR.wf i c hc
      · intro i c hc
        rw [hg] at hc
        rw [hhn]
        split at hc
        · omega
        · have := hR.low i c hc; omega
      · intro i v x i' v' x' h1 h2 e
        rcases hcase _ _ _ h1 with ⟨ha, hb1, hc⟩ | h3 <;> rcases hcase _ _ _ h2 with ⟨ha', hb1', hc'⟩ | h4
        · rw [ha, ha']
        · have := (hR.bnd _ _ _ h4).2; rw [hc] at e; simp only [L] at e; omega
        · have := (hR.bnd _ _ _ h3).2; rw [hc'] at e; simp only [L] at e; omega
        · exact hR.sep _ _ _ _ _ _ h3 h4 e
      · intro i v x h1
        rcases hcase _ _ _ h1 with ⟨_, _, hc⟩ | h3
        · rw [hc]; simp only [L]; omega
        · have := hR.bnd _ _ _ h3; omega
      · intro b i v hv
        have hv' : (if b = w.heap.size ∧ i < cs.length then arr[i]? else ρ.cell b i) = some v := hv
        split at hv'
        · rename_i hc
          obtain ⟨rfl, hi⟩ := hc
          simp only [World.cell?, hget2]
          rw [if_neg (by simp), Array.getElem?_append_left (by omega)]
          exact hv'
        · rw [cell?_push hp ⟨b, i, none⟩ (hR.fz.lt hv')]
          exact hR.fz.cell _ _ _ hv'
      · intro id ver x i v b hx hv hb
        have hv' : (if x.block = w.heap.size ∧ i < cs.length then arr[i]? else ρ.cell x.block i) = some v := hv
        rw [hg] at hb
        rcases hcase _ _ _ hx with ⟨rfl, _, rfl⟩ | hx
        · rw [if_pos rfl] at hb
          cases hb
          split at hv'
          · rename_i hc; show i < n * ti.size; omega
          · have := hR.fz.lt hv'; simp only [L] at this; omega
        · have hbd := (hR.bnd _ _ _ hx).2
          rw [if_neg (by omega)] at hv'
          by_cases hi : id = H.n
          · subst hi; rw [hf] at hx; cases hx
          · rw [if_neg hi] at hb
            exact hR.fz.sep _ _ _ _ _ _ hx hv' hb
    have hExt : Ext ρ H w ρ' (H.push (.tok n elem ti.size)) w2 := by
      refine ⟨hs, by omega, ?_, ?_, ?_, by omega, ?_, ?_, hsame, ?_⟩
      · intro c hc _
        rw [hp, Array.getElem?_push, if_neg (by omega)]
      · intro i v x h1 h0
        rcases hcase _ _ _ h1 with ⟨_, _, h3⟩ | h3
        · rw [h3]; exact .inl (Nat.le_refl _)
        · rw [h0] at h3; cases h3
      · intro i v x h1 h0
        rcases hcase _ _ _ h1 with ⟨h3, _, _⟩ | h3
        · exact .inl (by omega)
        · rw [h0] at h3; cases h3
      · intro i hi; rw [hg]; split <;> simp_all
      · intro i hi
        rw [hg] at hi
        split at hi
        · exact .inr (by omega)
        · exact .inl hi
      · intro b i v hv
        have hv' : (if b = w.heap.size ∧ i < cs.length then arr[i]? else ρ.cell b i) = some v := hv
        split at hv'
        · rename_i hc; exact .inr (.inl (by omega))
        · exact .inl hv'
    refine ⟨_, _, w2, ρ', hrun, rfl, ?_, hRel, hExt⟩
    have := VR.own (ρ := ρ') (t := H.n) (n := n) (cs := cs) (l := L) hself hn hlen (fun i => (arr[i]?).getD undef) (fun i hi => by
      obtain ⟨v, h1, h2⟩ := hcellnew i hi
      rw [h1]; exact h2) (fun i v hv => by
      obtain ⟨v', h1, h2⟩ := hrel.get hv
      have h3 : arr[i]? = some v' := by simpa using h1
      rw [h3]
      exact VR.reloc (ρ2 := ρ'.noloc) hcellold h2 (hno v (List.mem_of_getElem? hv)))
    exact this

theorem freshAny_ok {ρ : Ren} {B : Nat} {H : AH} {w : World} (hR : Rel ρ B H w) {own : Bool} {elem : TypeId} {ti : TypeInfo} {z : Value} {s : Sem Next} {fresh n cap : Nat} {cs : List Value} {arr : Array Value} (hz : z.cells.size = ti.size) (hs : 0 < ti.size)
    (hlen : cs.length = n * ti.size) (hn : n ≤ cap) (hrel : VRL ρ cs arr.toList) (hrun : s.run P w = .ok (.value (.slice (some ⟨w.heap.size, 0, none⟩) n cap)) (w.drew.alloc (.cells (arr ++ Builtin.zeroCells z.cells (cap - n)) elem))) :
    ResOK P ρ B H w s fresh (freshAny own H elem ti.size cs n) := by
  unfold freshAny
  have hl : ∀ l : List Value, (nfL l).length = l.length := by
    intro l
    induction l with
    | nil => rfl
    | cons a l ih => simp [nfL, ih]
  cases own with
  | false => exact fresh_ok hR hz hs hlen hn hrel hrun
  | true => exact freshTok_ok hR hz (by rw [hl]; exact hlen) hn (nfL_rel _ _ hrel) hrun

theorem nfL_length : ∀ l : List Value, (nfL l).length = l.length := by
  intro l
  induction l with
  | nil => rfl
  | cons a l ih => simp [nfL, ih]

/-- Onto a frozen row with room of its own. -/
theorem appTok2_sound {ρ : Ren} {B : Nat} {H : AH} {w : World} (hR : Rel ρ B H w) {at_ : Array TypeId} {ty elem : TypeId} {ti : TypeInfo} {z : Value} (hT : AppTys P at_ elem ti z) {fresh t n len : Nat} {cs : List Value} {s' x' : Value} {new : List Value}
    (hs : VR ρ (FO t len cs) s') (hpos : 0 < n) (hn : (Builtin.lenOf x').run P w = .ok n w) (hnl : new.length = n * ti.size) (hnew : ∀ w2 : World, w2.heap = w.heap → ∃ cs : Array Value, (Builtin.firstCells ti.size n x').run P w2 = .ok cs w2 ∧ VRL ρ new cs.toList)
    (hb : roomy (len + n) ti.bytes = true) : ResOK P ρ B H w (vNext (Builtin.append_ at_ ty #[s', x'])) fresh (appTok2 H elem ti.size t len cs new n) := by
  unfold appTok2
  split
  · rename_i m el es hget
    cases hq : growOk m el es elem ti.size t len cs new with
    | false => rw [cond_false]; trivial
    | true =>
      rw [cond_true]
      simp only [growOk, Bool.and_eq_true, Nat.beq_eq] at hq
      obtain ⟨rfl, rfl, rfl, hcl, hno, hone, hkey⟩ := hq
      rw [noRefsL_iff] at hno
      intro _
      obtain ⟨l, f, hl, hcap, hlen, hs', hfc, hfv⟩ := hs.own_inv
      subst hs'
      obtain ⟨_, hesz, htok⟩ := hR.blk _ _ _ _ hl hget
      have htok := htok rfl
      have hvers : ∀ ver l', ρ t ver = some l' → ver ≤ m ∧ l'.esz = ti.size := fun ver l' h => ⟨(hR.blk _ _ _ _ h hget).1, (hR.blk _ _ _ _ h hget).2.1⟩
      have hnone : ρ t (m + n) = none := by
        cases hx : ρ t (m + n) with
        | none => rfl
        | some l' => have := (hvers _ _ hx).1; omega
      have hfrz : ∀ i v, ρ.cell l.block i = some v → i < m * ti.size := by
        intro i v h
        have := hR.fz.sep _ _ _ _ _ _ hl h hget
        have h2 : i < m * l.esz := this
        rw [hesz] at h2
        exact h2
      have hmul : (m + n) * ti.size = m * ti.size + n * ti.size := Nat.add_mul _ _ _
      by_cases hroom : m + n ≤ l.cap
      · obtain ⟨vs, c1, c2⟩ := hnew w rfl
        have hvl : vs.toList.length = n * ti.size := by have := c2.1; omega
        have hNle : m * ti.size + n * ti.size ≤ l.cap * ti.size := by rw [← hmul]; exact Nat.mul_le_mul_right _ hroom
        have hsh := htok.shape
        rw [hesz] at hsh
        have hfree := htok.free
        rw [hesz] at hfree
        have hcells : ∀ j, j < vs.toList.length → (w.cell? ⟨l.block, m * ti.size + j, none⟩).isSome = true := fun j hj => shape_cell hsh _ (by omega)
        have hfz : ∀ j, j < vs.toList.length → w.frozen? ⟨l.block, m * ti.size + j, none⟩ = false := fun j hj => hfree _ (by omega) (by omega)
        have hst := run_storeCells_cells (P := P) l.block (m * ti.size) vs.toList 0 w (by simpa using hcells) (by simpa using hfz) (oneCells_rel c2 hone)
        simp only [Nat.add_zero] at hst
        have hrun := app_room (ty := ty) hT (a := ⟨l.block, 0, none⟩) (len := m) (cap := l.cap) hn c1 hroom (by rw [addr_add, Nat.zero_add]; exact hst)
        obtain ⟨hs1, hs2⟩ := heap_setCells l.block vs.toList (m * ti.size) w
        let ρ' : Ren := ⟨(ρ.add t (m + n) l).loc, fun b i => if b = l.block ∧ m * ti.size ≤ i ∧ i < m * ti.size + n * ti.size then vs.toList[i - m * ti.size]? else ρ.cell b i⟩
        have hcellold : ∀ b i v, ρ.cell b i = some v → ρ'.cell b i = some v := by
          intro b i v h
          show (if b = l.block ∧ m * ti.size ≤ i ∧ i < m * ti.size + n * ti.size then vs.toList[i - m * ti.size]? else ρ.cell b i) = some v
          rw [if_neg ?_]
          · exact h
          · rintro ⟨rfl, h1, _⟩
            have := hfrz i v h
            omega
        have hsub : Sub ρ ρ' := ⟨(Ren.sub_add hnone).loc, hcellold⟩
        have hcase : ∀ id ver x, ρ' id ver = some x → (id = t ∧ ver = m + n ∧ x = l) ∨ ρ id ver = some x := fun id ver x h => Ren.add_cases h
        have hself : ρ' t (m + n) = some l := Ren.add_self ρ t (m + n) l
        have hvers' : ∀ ver x, ρ' t ver = some x → x.esz = ti.size := by
          intro ver x h
          rcases hcase _ _ _ h with ⟨_, _, rfl⟩ | h
          · exact hesz
          · exact (hvers _ _ h).2
        obtain ⟨q1, q2⟩ := Rel.write (hsame := same_setCells _ _ _ _) (ρ' := ρ') (w' := w.setCells l.block (m * ti.size) vs.toList) (b1 := .tok (m + n) el ti.size) hR hsub
          (fun id' ver l' h => by
            rcases hcase _ _ _ h with ⟨e1, e2, e3⟩ | h
            · exact .inr ⟨e1, by rw [e3, hs1]; exact (hR.bnd _ _ _ hl).2, .inr ⟨_, l, hl, by rw [e3]⟩, _, l, hl⟩
            · exact .inl h) hget hkey (by omega) (fun c hc himg => hs2 c fun e => himg _ _ hl e.symm)
          (by
            intro ver l' hl'
            rcases hcase _ _ _ hl' with ⟨_, e2, e3⟩ | hl'
            · subst e2; subst e3
              refine ⟨Nat.le_refl _, hesz, fun _ => ⟨by rw [shape?_setCells]; exact htok.shape, hroom, fun i hi hi' => ?_, ?_⟩⟩
              · rw [World.frozen?_setCells]
                rw [hesz] at hi hi'
                exact hfree i (by omega) hi'
              · rw [hiOf_setCells]
                have := htok.hi
                have h5 : m * l'.esz ≤ (m + n) * l'.esz := Nat.mul_le_mul_right _ (by omega)
                omega
            · obtain ⟨h1, h2⟩ := hvers _ _ hl'
              exact ⟨by omega, h2, fun h => by omega⟩)
          (fun c hc => by cases hc)
          (by
            intro b i v hv
            have hv' : (if b = l.block ∧ m * ti.size ≤ i ∧ i < m * ti.size + n * ti.size then vs.toList[i - m * ti.size]? else ρ.cell b i) = some v := hv
            split at hv'
            · rename_i hc
              obtain ⟨rfl, h1, h2⟩ := hc
              refine .inr ⟨m + n, l, hself, rfl, ?_, ?_⟩
              · have hj : i - m * ti.size < vs.toList.length := by omega
                have p3 := World.cell?_setCells_in l.block vs.toList (m * ti.size) w hcells (i - m * ti.size) hj
                rw [show m * ti.size + (i - m * ti.size) = i by omega] at p3
                rw [List.getElem?_eq_getElem hj] at hv'
                cases hv'
                exact p3
              · intro ver x hx _
                show i < (m + n) * x.esz
                rw [hvers' _ _ hx]
                omega
            · exact .inl hv')
          (fun ver l' i v h1 h2 h3 => by
            have h3 : i < m * l'.esz := h3
            rw [(hvers _ _ h1).2] at h3
            rw [World.cell?_setCells_out l.block vs.toList (m * ti.size) w _ (fun _ _ => .inl (by simp only; omega))]
            exact hR.fz.cell _ _ _ h2)
          (fun l' i h => Nat.lt_of_lt_of_le h (Nat.mul_le_mul_right _ (by omega)))
          (fun ver0 l0 _ h0 x v hx _ k hk => by
            have hk : k < (m + n) * l0.esz := hk
            show k < (m + n) * x.esz
            rw [hvers' _ _ hx]
            rw [(hvers _ _ h0).2] at hk
            exact hk)
        refine ⟨_, _, _, _, by rw [run_vNext, hrun]; rfl, rfl, ?_, q1, q2⟩
        refine VR.own (ρ := ρ') hself hroom (by rw [List.length_append, hcl, hnl, hesz, hmul]) (fun i => if i < cs.length then f i else (vs.toList[i - m * ti.size]?).getD undef) (fun i hi => ?_) (fun i v hv => ?_)
        · rw [List.length_append] at hi
          show (if l.block = l.block ∧ m * ti.size ≤ i ∧ i < m * ti.size + n * ti.size then vs.toList[i - m * ti.size]? else ρ.cell l.block i) = _
          by_cases hlt : i < cs.length
          · rw [if_neg (by omega), if_pos hlt]
            exact hfc i hlt
          · rw [if_pos ⟨rfl, by omega, by omega⟩, if_neg hlt, List.getElem?_eq_getElem (by omega)]
            rfl
        · by_cases hlt : i < cs.length
          · rw [List.getElem?_append_left hlt] at hv
            rw [if_pos hlt]
            exact (hfv i v hv).mono hsub.noloc
          · rw [List.getElem?_append_right (by omega)] at hv
            rw [if_neg hlt, ← hcl]
            obtain ⟨v', p1, p2⟩ := c2.get hv
            rw [p1]
            exact VR.reloc (ρ2 := ρ'.noloc) hcellold p2 (hno v (List.mem_of_getElem? hv))
      · obtain ⟨vs, c1, c2⟩ := hnew w.drew rfl
        have hvl : vs.toList.length = n * ti.size := by have := c2.1; omega
        obtain ⟨olds, d1, d2⟩ := run_load_fz (P := P) (o := 0) (off := 0) (n := m * ti.size) (w2 := w.drew) hR (fun i hi => by rw [Nat.zero_add]; exact hfc i hi) hfv (Nat.le_of_eq (by rw [Nat.zero_add]; exact hcl.symm)) rfl
        have e0 : slotsOf cs 0 (m * ti.size) = cs := by rw [← hcl]; simp [slotsOf]
        rw [e0] at d2
        have hrun := app_grow (ty := ty) hT (base := some ⟨l.block, 0, none⟩) (len := m) (cap := l.cap) (w := w) hn (by simpa [Builtin.firstCells] using d1) c1 (by omega) hb
        have hge := grownCap_ge w (m + n) l.cap el
        have hrel : VRL ρ (cs ++ new) (olds ++ vs).toList := by rw [Array.toList_append]; exact d2.append c2
        have hnl2 : (cs ++ new).length = (m + n) * ti.size := by rw [List.length_append, hcl, hnl, hmul]
        have has : (olds ++ vs).size = (m + n) * ti.size := by
          have := hrel.1
          rw [hnl2] at this
          rw [← Array.length_toList]
          omega
        have hsz : (olds ++ vs ++ Builtin.zeroCells z.cells (grownCap w (m + n) l.cap el - (m + n))).size = grownCap w (m + n) l.cap el * ti.size := by
          rw [Array.size_append, zeroCells_size, hT.size, has, ← Nat.add_mul]
          congr 1
          omega
        generalize hw2 : w.drew.alloc (.cells (olds ++ vs ++ Builtin.zeroCells z.cells (grownCap w (m + n) l.cap el - (m + n))) el) = w2 at hrun
        have hp : w2.heap = w.heap.push (.cells (olds ++ vs ++ Builtin.zeroCells z.cells (grownCap w (m + n) l.cap el - (m + n))) el (0, 0)) := by rw [← hw2]; rfl
        have hsame : w2.os = w.os ∧ w2.output = w.output := by rw [← hw2]; exact ⟨rfl, rfl⟩
        have hget2 : w2.heap[w.heap.size]? = some (.cells (olds ++ vs ++ Builtin.zeroCells z.cells (grownCap w (m + n) l.cap el - (m + n))) el (0, 0)) := by rw [hp]; simp
        have hsz2 : w2.heap.size = w.heap.size + 1 := by rw [hp]; simp
        let L : Loc := ⟨w.heap.size, grownCap w (m + n) l.cap el, ti.size⟩
        let ρ' : Ren := ⟨(ρ.add t (m + n) L).loc, fun b i => if b = w.heap.size ∧ i < (m + n) * ti.size then (olds ++ vs)[i]? else ρ.cell b i⟩
        have hcellold : ∀ b i v, ρ.cell b i = some v → ρ'.cell b i = some v := by
          intro b i v h
          have := hR.fz.lt h
          show (if b = w.heap.size ∧ i < (m + n) * ti.size then (olds ++ vs)[i]? else ρ.cell b i) = some v
          rw [if_neg (by omega)]
          exact h
        have hsub : Sub ρ ρ' := ⟨(Ren.sub_add hnone).loc, hcellold⟩
        have hcase : ∀ id ver x, ρ' id ver = some x → (id = t ∧ ver = m + n ∧ x = L) ∨ ρ id ver = some x := fun id ver x h => Ren.add_cases h
        have hself : ρ' t (m + n) = some L := Ren.add_self ρ t (m + n) L
        have hvers' : ∀ ver x, ρ' t ver = some x → x.esz = ti.size := by
          intro ver x h
          rcases hcase _ _ _ h with ⟨_, _, rfl⟩ | h
          · rfl
          · exact (hvers _ _ h).2
        obtain ⟨q1, q2⟩ := Rel.write (hsame := hsame) (ρ' := ρ') (w' := w2) (b1 := .tok (m + n) el ti.size) hR hsub
          (fun id' ver l' h => by
            rcases hcase _ _ _ h with ⟨e1, e2, e3⟩ | h
            · exact .inr ⟨e1, by rw [e3, hsz2]; exact Nat.lt_succ_self _, .inl (by rw [e3]; exact Nat.le_refl _), _, l, hl⟩
            · exact .inl h) hget hkey (by omega) (fun c hc _ => by rw [hp, Array.getElem?_push, if_neg (by omega)])
          (by
            intro ver l' hl'
            rcases hcase _ _ _ hl' with ⟨_, e2, e3⟩ | hl'
            · subst e2; subst e3
              refine ⟨Nat.le_refl _, rfl, fun _ => ⟨by simp only [World.shape?, L, hget2, hsz], hge, fun i _ _ => ?_, ?_⟩⟩
              · simp only [World.frozen?, L, hget2]
                simp
              · simp only [hiOf, L, hget2]
                exact Nat.zero_le _
            · obtain ⟨h1, h2⟩ := hvers _ _ hl'
              exact ⟨by omega, h2, fun h => by omega⟩)
          (fun c hc => by cases hc)
          (by
            intro b i v hv
            have hv' : (if b = w.heap.size ∧ i < (m + n) * ti.size then (olds ++ vs)[i]? else ρ.cell b i) = some v := hv
            split at hv'
            · rename_i hc
              obtain ⟨rfl, h1⟩ := hc
              refine .inr ⟨m + n, L, hself, rfl, ?_, ?_⟩
              · simp only [World.cell?, hget2]
                rw [if_neg (by simp), Array.getElem?_append_left (by omega)]
                exact hv'
              · intro ver x hx _
                show i < (m + n) * x.esz
                rw [hvers' _ _ hx]
                exact h1
            · exact .inl hv')
          (fun ver l' i v h1 h2 h3 => by
            rw [cell?_push hp ⟨l'.block, i, none⟩ (hR.fz.lt h2)]
            exact hR.fz.cell _ _ _ h2)
          (fun l' i h => Nat.lt_of_lt_of_le h (Nat.mul_le_mul_right _ (by omega)))
          (fun ver0 l0 _ h0 x v hx _ k hk => by
            have hk : k < (m + n) * l0.esz := hk
            show k < (m + n) * x.esz
            rw [hvers' _ _ hx]
            rw [(hvers _ _ h0).2] at hk
            exact hk)
        refine ⟨_, _, _, _, by rw [run_vNext, hrun]; rfl, rfl, ?_, q1, q2⟩
        refine VR.own (ρ := ρ') (l := L) hself hge hnl2 (fun i => ((olds ++ vs)[i]?).getD undef) (fun i hi => ?_) (fun i v hv => ?_)
        · show (if w.heap.size = w.heap.size ∧ i < (m + n) * ti.size then (olds ++ vs)[i]? else ρ.cell w.heap.size i) = _
          rw [if_pos ⟨rfl, by omega⟩, Array.getElem?_eq_getElem (by omega)]
          rfl
        · obtain ⟨v', p1, p2⟩ := hrel.get hv
          have p3 : (olds ++ vs)[i]? = some v' := by rw [Array.getElem?_toList] at p1; exact p1
          rw [p3]
          have hi := get_lt hv
          by_cases hlt : i < cs.length
          · rw [List.getElem?_append_left hlt] at hv
            have := hfv i v hv
            have e1 : v' = f i := by
              have h1 := run_load_fz (P := P) (o := 0) (off := 0) (n := m * ti.size) (w2 := w.drew) hR (fun i hi => by rw [Nat.zero_add]; exact hfc i hi) hfv (by omega) rfl
              have h2 := run_loadCells (P := P) w.drew ⟨l.block, 0, none⟩ (m * ti.size) (fun j => f j) (by
                intro j hj
                rw [addr_add, Nat.zero_add]
                have := hR.fz.cell _ _ _ (hfc j (by omega))
                exact this)
              rw [h2] at d1
              cases d1
              rw [Array.getElem?_append_left (by simp; omega)] at p3
              simp only [List.getElem?_toArray, List.getElem?_map] at p3
              rw [List.getElem?_range (by omega)] at p3
              simpa using p3.symm
            rw [e1]
            exact this.mono hsub.noloc
          · rw [List.getElem?_append_right (by omega)] at hv
            exact VR.reloc (ρ2 := ρ'.noloc) hcellold p2 (hno v (List.mem_of_getElem? hv))
  · trivial

end
end Go.Den
