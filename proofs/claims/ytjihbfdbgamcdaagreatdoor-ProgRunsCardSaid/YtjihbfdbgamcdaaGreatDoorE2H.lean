/-
  THE ENGINE, part H: operations that make blocks, or build values.
-/
import Derived.Test.YtjihbfdbgamcdaaGreatDoorE2G
import Derived.Laws.Tables
namespace Go.Den
noncomputable section

variable {P : Program}

theorem overwrite_length (vs : List Value) : ∀ (l : List Value) (i : Nat), (overwrite l i vs).length = l.length := by
  induction vs with
  | nil => intro l i; rfl
  | cons v vs ih => intro l i; simp [overwrite, ih]

theorem overwrite_rel {ρ : Ren} {vs vs' : List Value} (hv : VRL ρ vs vs') : ∀ {l l' : List Value} (i : Nat), VRL ρ l l' → VRL ρ (overwrite l i vs) (overwrite l' i vs') := by
  induction vs generalizing vs' with
  | nil => intro l l' i h; rw [hv.unnil]; exact h
  | cons v vs ih =>
    intro l l' i h
    obtain ⟨v', r, rfl, h1, h2⟩ := hv.uncons
    exact ih h2 (i + 1) (h.set h1 i)

theorem foldl_over (off : Nat) (vs : List Value) : ∀ (k : Nat) (cells : Array Value), ((vs.zipIdx k).foldl (fun cs (x : Value × Nat) => cs.setIfInBounds (off + x.2) x.1) cells).toList = overwrite cells.toList (off + k) vs := by
  induction vs with
  | nil => intro k cells; rfl
  | cons v vs ih =>
    intro k cells
    simp only [List.zipIdx_cons, List.foldl_cons, overwrite]
    rw [ih]
    simp [Nat.add_assoc]

theorem foldl_over_arr (off : Nat) (vs cells : Array Value) : (vs.zipIdx.foldl (fun cs (x : Value × Nat) => cs.setIfInBounds (off + x.2) x.1) cells).toList = overwrite cells.toList off vs.toList := by
  rw [← Array.foldl_toList, Array.toList_zipIdx]
  exact foldl_over off vs.toList 0 cells

theorem VR.cells_size {ρ : Ren} {v v' : Value} (h : VR ρ v v') (hj : isJK v = false) : v'.cells.size = v.cells.size := by
  have := (h.cells hj).1
  simpa using this.symm

/-- What is filled in by the abstract values is filled in by the machine's. -/
theorem fill_rel {ρ : Ren} {e : Env} {a : Act} (hE : ERel ρ e a) (place : Nat → Option (Nat × Nat)) (parts : List (Nat × Operand)) :
    ∀ (L : List (Nat × Nat × Operand)), L.length = parts.length → (∀ (k : Nat) (p : Nat × Operand) (q : Nat × Nat × Operand), parts[k]? = some p → L[k]? = some q → place p.1 = some (q.1, q.2.1) ∧ q.2.2 = p.2) →
      (∀ p ∈ parts, okOpd p.2 = true) → ∀ (zero cs : List Value) (zero' : Array Value), VRL ρ zero zero'.toList → fillR zero (evParts e L) = some cs →
        ∃ arr, Instr.fill place zero' (parts.map fun p => (p.1, a.eval p.2)) = some arr ∧ VRL ρ cs arr.toList := by
  induction parts with
  | nil =>
    intro L hL _ _ zero cs zero' hz h
    cases L with
    | nil => simp only [evParts, fillR, Option.some.injEq] at h; subst h; exact ⟨zero', rfl, hz⟩
    | cons x L => simp at hL
  | cons p parts ih =>
    intro L hL hp hops zero cs zero' hz h
    cases L with
    | nil => simp at hL
    | cons q L =>
      obtain ⟨off, size, x⟩ := q
      obtain ⟨j, y⟩ := p
      obtain ⟨h1, h2⟩ := hp 0 _ _ rfl rfl
      simp only at h1 h2
      subst h2
      have hv := evl_rel hE x (hops (j, x) (by simp))
      simp only [evParts, fillR] at h
      cases hq : (Nat.beq (evl e x).cells.size size && (Nat.ble (off + size) zero.length && !isJK (evl e x))) with
      | false => rw [hq, cond_false] at h; cases h
      | true =>
        rw [hq, cond_true] at h
        simp only [Bool.and_eq_true, Nat.beq_eq, Nat.ble_eq, Bool.not_eq_true'] at hq
        obtain ⟨hq1, hq2, hj⟩ := hq
        have hq : (evl e x).cells.size = size ∧ off + size ≤ zero.length := ⟨hq1, hq2⟩
        have hsz := hv.cells_size hj
        have hlen : zero'.size = zero.length := by have := hz.1; simpa using this.symm
        have hrest := ih L (by simpa using hL) (fun k p q a b => hp (k + 1) p q (by simpa using a) (by simpa using b)) (fun p hp' => hops p (by simp [hp'])) _ cs
          ((a.eval x).cells.zipIdx.foldl (fun cs (x : Value × Nat) => cs.setIfInBounds (off + x.2) x.1) zero') (by rw [foldl_over_arr]; exact overwrite_rel (hv.cells hj) off hz) h
        obtain ⟨arr, h3, h4⟩ := hrest
        refine ⟨arr, ?_, h4⟩
        simp only [List.map_cons, Instr.fill, h1]
        rw [if_neg (by simp only [ne_eq, Bool.or_eq_true, decide_eq_true_eq]; omega)]
        exact h3

theorem partsS_length (places : List (Nat × Nat)) : ∀ (parts : List (Nat × Operand)) (L : List (Nat × Nat × Operand)), partsS places parts = some L → L.length = parts.length ∧
    (∀ (k : Nat) (p : Nat × Operand) (q : Nat × Nat × Operand), parts[k]? = some p → L[k]? = some q → places[p.1]? = some (q.1, q.2.1) ∧ q.2.2 = p.2) := by
  intro parts
  induction parts with
  | nil => intro L h; simp only [partsS, Option.some.injEq] at h; subst h; exact ⟨rfl, by simp⟩
  | cons p parts ih =>
    intro L h
    obtain ⟨j, x⟩ := p
    simp only [partsS] at h
    split at h
    · rename_i pl l h1 h2
      cases h
      obtain ⟨h3, h4⟩ := ih l h2
      refine ⟨by simp [h3], ?_⟩
      intro k p q e1 e2
      cases k with
      | zero => simp at e1 e2; subst e1; subst e2; exact ⟨h1, rfl⟩
      | succ k => exact h4 k p q (by simpa using e1) (by simpa using e2)
    · cases h

theorem partsA_length (size : Nat) : ∀ (parts : List (Nat × Operand)), (partsA size parts).length = parts.length ∧
    (∀ (k : Nat) (p : Nat × Operand) (q : Nat × Nat × Operand), parts[k]? = some p → (partsA size parts)[k]? = some q → (some (p.1 * size, size) : Option (Nat × Nat)) = some (q.1, q.2.1) ∧ q.2.2 = p.2) := by
  intro parts
  induction parts with
  | nil => exact ⟨rfl, by simp⟩
  | cons p parts ih =>
    obtain ⟨j, x⟩ := p
    refine ⟨by simp [partsA, ih.1], ?_⟩
    intro k p q e1 e2
    cases k with
    | zero => simp [partsA] at e1 e2; subst e1; subst e2; simp
    | succ k => exact ih.2 k p q (by simpa using e1) (by simpa [partsA] using e2)

theorem flat_cells {z : Value} (h : flat z = true) : ∀ v ∈ z.cells.toList, flat v = true := by
  cases z <;> simp_all [Value.cells, flat, flatA_iff]

theorem build_sound {ρ : Ren} {B : Nat} {H : AH} {w : World} {e : Env} {a : Act} {fresh : Nat} (hE : ERel ρ e a) {t : TypeId} {parts : Array (Nat × Operand)} (hops : ∀ p ∈ parts.toList, okOpd p.2 = true) {i : Ins}
    (hc : compBuild P t parts.toList = some i) : ResOK P ρ B H w (vNext (Instr.build t (parts.map fun (j, x) => (j, a.eval x)))) fresh (insA P e H fresh i) := by
  have key : ∀ (L : List (Nat × Nat × Operand)) (z : Value) (place : Nat → Option (Nat × Nat)), flat z = true → L.length = parts.toList.length →
      (∀ (k : Nat) (p : Nat × Operand) (q : Nat × Nat × Operand), parts.toList[k]? = some p → L[k]? = some q → place p.1 = some (q.1, q.2.1) ∧ q.2.2 = p.2) →
      (∀ arr, Instr.fill place z.cells (parts.toList.map fun p => (p.1, a.eval p.2)) = some arr → P.built t (parts.map fun (j, x) => (j, a.eval x)).toList = some arr) →
      ResOK P ρ B H w (vNext (Instr.build t (parts.map fun (j, x) => (j, a.eval x)))) fresh (buildRes (fillR z.cells.toList (evParts e L))) := by
    intro L z place hz h1 h2 h3
    cases hf : fillR z.cells.toList (evParts e L) with
    | none => trivial
    | some cs =>
      obtain ⟨arr, h4, h5⟩ := fill_rel hE place parts.toList L h1 h2 hops z.cells.toList cs z.cells (.flat (flat_cells hz)) hf
      refine .val (v' := .agg arr) ?_ (.agg_mk (by simpa using h5))
      rw [run_vNext, run_build w t _ arr (h3 arr h4)]
      rfl
  unfold compBuild at hc
  split at hc
  · rename_i ti fields h1 h2
    split at hc
    · rename_i z places h3 h4
      split at hc
      · rename_i l h5
        cases hc
        obtain ⟨hz, hzf⟩ := zeroFlat_some h3
        obtain ⟨h6, h7⟩ := partsS_length places _ _ h5
        refine key l z (places.toArray[·]?) hzf h6 (fun k p q e1 e2 => by simpa using h7 k p q e1 e2) ?_
        intro arr ha
        unfold Program.built
        unfold tyInfo at h1
        unfold tyU at h2
        simp only [h1, h2, hz, h4]
        simpa using ha
      · cases hc
    · cases hc
  · rename_i ti n elem h1 h2
    split at hc
    · rename_i z ei h3 h4
      cases hc
      obtain ⟨hz, hzf⟩ := zeroFlat_some h3
      obtain ⟨h6, h7⟩ := partsA_length ei.size parts.toList
      refine key _ z (fun i => some (i * ei.size, ei.size)) hzf h6 h7 ?_
      intro arr ha
      unfold Program.built
      unfold tyInfo at h1 h4
      unfold tyU at h2
      simp only [h1, h2, hz, h4]
      simpa using ha
    · cases hc
  · cases hc

/- BLOCKS -/

theorem row_rel {ρ : Ren} {w w' : World} {arr : Array Value} {b : CBlk} {l : Loc} {fz : Nat × Nat} (hp : w'.heap = w.heap.push (.cells arr b.elem fz)) (hl : l.block = w.heap.size)
    (hv : ∀ (i : Nat) (v : Value), b.cells[i]? = some v → ∃ v', arr[i]? = some v' ∧ VR ρ v v') (h1 : b.lens = [] → arr.size = b.cells.length) (h2 : b.lens ≠ [] → arr.size = l.cap * b.esz ∧ b.lenAt 0 ≤ arr.size)
    (hz : ∀ i : Nat, i < arr.size → ¬ (fz.1 ≤ i ∧ i < fz.2)) (he : l.esz = b.esz) (hh : b.mark = false → fz.2 ≤ b.frz := by exact fun _ => Nat.zero_le _) : BRel ρ w' (.cells b) 0 l := by
  have hget : w'.heap[l.block]? = some (.cells arr b.elem fz) := by rw [hp, hl]; simp
  refine ⟨Nat.zero_le _, fun _ => ⟨⟨arr.size, by simp [World.shape?, hget], h1, h2, ?_⟩, ?_, he, fun hm => by simp only [hiOf, hget]; exact hh hm⟩⟩
  · intro i _ hi
    have := hz i hi
    simp only [World.frozen?, hget]
    simpa using this
  · intro i v _ hi
    obtain ⟨v', h3, h4⟩ := hv i v hi
    exact ⟨v', by simp [World.cell?, hget, h3], h4⟩

theorem exact_wf (cs : List Value) (elem : TypeId) : ∀ c, exact cs elem = .cells c → c.WF := by
  intro c h
  unfold exact at h
  cases h
  exact ⟨by simp, Nat.zero_le _, fun h => h⟩

/-- A new row that is known whole. -/
theorem exact_res {ρ : Ren} {B : Nat} {H : AH} {w : World} {s : Sem Next} {fresh : Nat} {cs : List Value} {elem : TypeId} {arr : Array Value} {v v' : Value}
    (hs : s.run P w = .ok (.value v') (w.alloc (.cells arr elem))) (hr : ∀ ρ', Sub ρ ρ' → VRL ρ' cs arr.toList) (hv : ∀ ρ', Sub ρ ρ' → ρ' fresh 0 = some ⟨w.heap.size, arr.size, 1⟩ → VR ρ' v v') :
    ResOK P ρ B H w s fresh (.simple v (some (exact cs elem))) := by
  refine ⟨v', w.alloc (.cells arr elem), .cells arr elem, ⟨w.heap.size, arr.size, 1⟩, hs, rfl, ⟨rfl, rfl⟩, rfl, fun ρ' h1 h2 => ⟨hv ρ' h1 h2, ?_⟩, exact_wf cs elem⟩
  refine row_rel (w := w) (arr := arr) (fz := (0, 0)) rfl rfl ?_ ?_ ?_ ?_ rfl
  · intro i x hx
    obtain ⟨x', h3, h4⟩ := (hr ρ' h1).get hx
    exact ⟨x', by simpa using h3, h4⟩
  · intro _; have := (hr ρ' h1).1; simpa [exact] using this.symm
  · intro h; exact absurd rfl h
  · intro i _; simp

theorem new_sound {ρ : Ren} {B : Nat} {H : AH} {w : World} {fresh : Nat} {elem : TypeId} {i : TypeInfo} {z : Value} (hi : tyInfo P elem = some i) (hz : zeroFlat i = some z) :
    ResOK P ρ B H w (vNext (Instr.alloc elem true (.tuple #[]))) fresh (.simple (.pointer (some ⟨fresh, 0, none⟩)) (some (exact z.cells.toList elem))) := by
  obtain ⟨h1, h2⟩ := zeroFlat_some hz
  refine exact_res (arr := z.cells) (v' := .pointer (some ⟨w.heap.size, 0, none⟩)) ?_ (fun ρ' _ => .flat (flat_cells h2)) (fun ρ' _ h => .ptr (l := ⟨w.heap.size, z.cells.size, 1⟩) h)
  rw [run_vNext]
  simp [Instr.alloc, run_zero hi h1, newVar, newRow]

theorem box_sound {ρ : Ren} {B : Nat} {H : AH} {w : World} {e : Env} {a : Act} {fresh : Nat} (hE : ERel ρ e a) {elem : TypeId} {x : Operand} (hx : okOpd x = true) :
    ResOK P ρ B H w (vNext (Instr.box elem (a.eval x))) fresh (bif isJK (evl e x) then .none else .simple (.pointer (some ⟨fresh, 0, none⟩)) (some (exact (evl e x).cells.toList elem))) := by
  cases hj : isJK (evl e x) with
  | true => trivial
  | false =>
  rw [cond_false]
  refine exact_res (arr := (a.eval x).cells) (v' := .pointer (some ⟨w.heap.size, 0, none⟩)) ?_ (fun ρ' hs => ((evl_rel hE x hx).cells hj).mono hs) (fun ρ' _ h => .ptr (l := ⟨w.heap.size, _, 1⟩) h)
  rw [run_vNext]
  simp [Instr.box, newVar, newRow]

theorem mkmap_sound {ρ : Ren} {B : Nat} {H : AH} {w : World} {fresh : Nat} {t : TypeId} :
    ResOK P ρ B H w (vNext (Instr.makeMap t none)) fresh (.simple (.map (some fresh)) (some (.map []))) := by
  refine ⟨.map (some w.heap.size), w.alloc (.map #[] 0), .map #[] 0, ⟨w.heap.size, 0, 0⟩, ?_, rfl, ⟨rfl, rfl⟩, rfl, fun ρ' h1 h2 => ⟨.map h2, rfl, #[], 0, ?_, rfl, ?_⟩, fun c h => by cases h⟩
  · rw [run_vNext]; simp [Instr.makeMap]
  · show (w.heap.push (Obj.map #[] 0))[w.heap.size]? = _; simp
  · intro i e m h; simp at h

theorem zeroRow_length (z : List Value) (n : Nat) : (zeroRow z n).length = n * z.length := by
  induction n with
  | zero => simp [zeroRow]
  | succ n ih => simp [zeroRow, ih, Nat.succ_mul, Nat.add_comm]

theorem zeroRow_get (z : List Value) (n i : Nat) (h : i < n * z.length) : (zeroRow z n)[i]? = z[i % z.length]? := by
  induction n generalizing i with
  | zero => simp at h
  | succ n ih =>
    have h' : i < n * z.length + z.length := by simpa [Nat.succ_mul] using h
    simp only [zeroRow]
    by_cases hi : i < z.length
    · rw [List.getElem?_append_left hi, Nat.mod_eq_of_lt hi]
    · rw [List.getElem?_append_right (by omega), ih (i - z.length) (by omega)]
      congr 1
      exact (Nat.mod_eq_sub_mod (by omega)).symm

theorem zeroRow_arr (z : Array Value) (n : Nat) (hz : 0 < z.size) : ((Array.range (n * z.size)).map (z[· % z.size]!)).toList = zeroRow z.toList n := by
  apply List.ext_getElem?
  intro i
  by_cases hi : i < n * z.size
  · rw [zeroRow_get _ _ _ (by simpa using hi)]
    have hm : i % z.size < z.size := Nat.mod_lt _ hz
    have h3 : (List.range (n * z.size))[i]? = some i := by simp [hi]
    simp only [Array.toList_map, Array.toList_range, List.getElem?_map, h3, Option.map_some, Array.length_toList]
    rw [getElem!_pos z _ hm]
    simp [hm]
  · have h1 : ((Array.range (n * z.size)).map (z[· % z.size]!)).toList.length = n * z.size := by simp
    have h2 := zeroRow_length z.toList n
    have h3 : z.toList.length = z.size := by simp
    rw [h3] at h2
    rw [List.getElem?_eq_none (by omega), List.getElem?_eq_none (by omega)]

theorem zeroRow_flat {z : List Value} (hz : ∀ v ∈ z, flat v = true) (n : Nat) : ∀ v ∈ zeroRow z n, flat v = true := by
  induction n with
  | zero => simp [zeroRow]
  | succ n ih => intro v hv; simp [zeroRow] at hv; rcases hv with h | h; exact hz v h; exact ih v h

theorem bslice_sound {ρ : Ren} {B : Nat} {H : AH} {w : World} {e : Env} {a : Act} {fresh : Nat} (hE : ERel ρ e a) {t : TypeId} {len : Nat} {parts : Array (Nat × Operand)} (hops : ∀ p ∈ parts.toList, okOpd p.2 = true) {i : Ins}
    (hc : compSlice P t len parts.toList = some i) : ResOK P ρ B H w (vNext (Instr.buildSlice t len (parts.map fun (j, x) => (j, a.eval x)))) fresh (insA P e H fresh i) := by
  unfold compSlice at hc
  split at hc
  · rename_i elem h1
    split at hc
    · rename_i ti h2
      split at hc
      · rename_i z h3
        split at hc
        · rename_i h4
          cases hc
          simp only [Bool.and_eq_true, Nat.beq_eq, Nat.ble_eq, Nat.blt_eq] at h4
          obtain ⟨h4, h5, h6⟩ := h4
          obtain ⟨hz, hzf⟩ := zeroFlat_some h3
          show ResOK P ρ B H w _ fresh (fillRes elem len fresh (fillR (zeroRow z.cells.toList len) (evParts e (partsA ti.size parts.toList))))
          cases hf : fillR (zeroRow z.cells.toList len) (evParts e (partsA ti.size parts.toList)) with
          | none => trivial
          | some cs =>
            obtain ⟨h7, h8⟩ := partsA_length ti.size parts.toList
            have hrow : ∀ (zz : Array Value), zz = (if len * ti.size = 0 then #[] else z.cells) → ((Array.range (len * ti.size)).map (zz[· % zz.size]!)).toList = zeroRow z.cells.toList len := by
              intro zz hzz
              by_cases h0 : len * ti.size = 0
              · have hl0 : len = 0 := by
                  rcases Nat.mul_eq_zero.1 h0 with h | h
                  · exact h
                  · omega
                subst hl0
                simp [zeroRow]
              · rw [if_neg h0] at hzz
                subst hzz
                rw [← h5]
                exact zeroRow_arr z.cells len (by omega)
            obtain ⟨arr, h9, h10⟩ := fill_rel hE (fun i => some (i * ti.size, ti.size)) parts.toList _ h7 h8 hops (zeroRow z.cells.toList len) cs
              ((Array.range (len * ti.size)).map ((if len * ti.size = 0 then #[] else z.cells)[· % (if len * ti.size = 0 then #[] else z.cells).size]!))
              (by rw [hrow _ rfl]; exact .flat (zeroRow_flat (flat_cells hzf) len)) hf
            refine exact_res (arr := arr) (v' := .slice (some ⟨w.heap.size, 0, none⟩) len len) ?_ (fun ρ' hs => h10.mono hs) (fun ρ' _ h => .sliceExact (l := ⟨w.heap.size, arr.size, 1⟩) h)
            rw [run_vNext]
            have hb : ¬ len * ti.size > 2 ^ 24 := by simp; omega
            have h9' : Instr.fill (fun i => some (i * ti.size, ti.size)) ((Array.range (len * ti.size)).map ((if len * ti.size = 0 then #[] else z.cells)[· % (if len * ti.size = 0 then #[] else z.cells).size]!)) (parts.map fun (j, x) => (j, a.eval x)).toList = some arr := by
              simpa using h9
            simp only [Instr.buildSlice, Sem.run_bind, run_under h1, Result.andThen_ok, run_size h2, if_neg hb, Sem.run_pure]
            by_cases h0 : len * ti.size = 0
            · simp only [h0, if_true] at h9'
              have h11 : Instr.fill (fun i => some (i * ti.size, ti.size)) #[] (parts.toList.map fun x => (x.1, a.eval x.2)) = some arr := by simpa [show Array.range 0 = #[] from rfl] using h9'
              simp [h0, h11, newRow, show Array.range 0 = #[] from rfl]
            · simp only [h0, if_false] at h9'
              have h11 : Instr.fill (fun i => some (i * ti.size, ti.size)) ((Array.range (len * ti.size)).map (z.cells[· % z.cells.size]!)) (parts.toList.map fun x => (x.1, a.eval x.2)) = some arr := by simpa using h9'
              simp only [if_false, h0, Sem.run_bind, run_zero h2 hz, Result.andThen_ok]
              simp [h11, newRow]
        · cases hc
      · cases hc
    · cases hc
  · cases hc

theorem mkslice_sound {ρ : Ren} {B : Nat} {H : AH} {w : World} {e : Env} {a : Act} {fresh : Nat} (hE : ERel ρ e a) {t elem : TypeId} {l c : Operand} (hl : okOpd l = true) (hc : okOpd c = true) {ti : TypeInfo} {z : Value}
    (h1 : tyU P t = some (.slice elem)) (h2 : tyInfo P elem = some ti) (h3 : zeroFlat ti = some z) (h4 : z.cells.size = ti.size) (h5 : 0 < ti.size) :
    ResOK P ρ B H w (vNext (Instr.makeSlice t (a.eval l) (a.eval c))) fresh (mksliceA elem ti.size ti.bytes z.cells.toList fresh (asNat (evl e l)) (asNat (evl e c))) := by
  have hvl := evl_rel hE l hl
  have hvc := evl_rel hE c hc
  cases hql : asNat (evl e l) with
  | none => trivial
  | some m =>
    cases hqc : asNat (evl e c) with
    | none => trivial
    | some n =>
      show ResOK P ρ B H w _ fresh (bif Nat.ble m n && roomy n ti.bytes then .simple (.slice (some ⟨fresh, 0, none⟩) m (n + 1)) (some (exact (zeroRow z.cells.toList n) elem)) else .none)
      cases hq : (Nat.ble m n && roomy n ti.bytes) with
      | false => trivial
      | true =>
        simp only [roomy, Bool.and_eq_true, Nat.ble_eq] at hq
        obtain ⟨hmn, hn, hby⟩ := hq
        have hint : ∀ (v : Value) (k : Nat), asNat v = some k → ∃ kk, v = .int kk (k : Int) := by
          intro v k hv
          unfold asNat at hv
          split at hv
          · rename_i kk kn; cases hv; exact ⟨kk, rfl⟩
          · cases hv
        obtain ⟨k1, e1⟩ := hint _ _ hql
        obtain ⟨k2, e2⟩ := hint _ _ hqc
        rw [e1] at hvl
        rw [e2] at hvc
        rw [hvl.int_inv, hvc.int_inv]
        obtain ⟨hz, hzf⟩ := zeroFlat_some h3
        have hrow := zeroRow_arr z.cells n (by omega)
        rw [h4] at hrow
        refine exact_res (arr := if n * ti.size = 0 then (Array.range (n * ti.size)).map ((#[] : Array Value)[· % 0]!) else (Array.range (n * ti.size)).map (z.cells[· % z.cells.size]!)) (v' := .slice (some ⟨w.heap.size, 0, none⟩) m n) ?_ ?_ (fun ρ' _ h => .sliceExact (l := ⟨w.heap.size, _, 1⟩) h)
        · rw [run_vNext]
          have hw : ∀ k : Nat, k ≤ 16777216 → IntKind.i64.wrap (k : Int) = (k : Int) := by
            intro k hk
            have e1 : (k : Int) % 18446744073709551616 = k := Int.emod_eq_of_lt (by omega) (by omega)
            have e2 : ¬ ((k : Int) ≥ 9223372036854775808) := by omega
            simp [IntKind.wrap, IntKind.bits, IntKind.signed, e1, e2]
          have hbn : ¬ ((ti.bytes : Int) * (n : Int) > 2 ^ 48) := by
            have : ti.bytes * n ≤ 1048576 * 16777216 := Nat.mul_le_mul hby hn
            have h' : ((ti.bytes * n : Nat) : Int) ≤ ((1048576 * 16777216 : Nat) : Int) := Int.ofNat_le.2 this
            rw [Int.natCast_mul] at h'
            omega
          have hneg : ¬ ((n : Int) < 0) := by omega
          have hl0 : ¬ ((m : Int) < 0) := by omega
          have hlc : ¬ ((m : Int) > (n : Int)) := by omega
          simp only [Instr.makeSlice, Sem.run_bind, run_under h1, Result.andThen_ok, asInt, asIntOf, Sem.run_pure, run_info h2, hw m (by omega), hw n hn]
          simp only [hneg, hbn, hl0, hlc, decide_false, Bool.or_false, Bool.false_eq_true, if_false, Sem.run_pure, Result.andThen_ok, run_askRoom, run_size h2, Int.toNat_natCast, Sem.run_bind, Sem.run_ite]
          by_cases h0 : n * ti.size = 0
          · simp only [h0, if_true]
            simp [newRow]
          · simp only [h0, if_false]
            simp [run_zero h2 hz, newRow]
        · intro ρ' _
          by_cases h0 : n * ti.size = 0
          · have hn0 : n = 0 := by
              rcases Nat.mul_eq_zero.1 h0 with h | h
              · exact h
              · omega
            subst hn0
            simp [zeroRow, VRL.nil]
          · rw [if_neg h0, h4, hrow]
            exact .flat (zeroRow_flat (flat_cells hzf) n)

end
end Go.Den
