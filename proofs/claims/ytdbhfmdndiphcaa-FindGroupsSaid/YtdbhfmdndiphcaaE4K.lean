/-
  MAPS WHOSE KEYS ARE STRUCTS of plain cells: what is looked up, what is laid in.
-/
import Derived.Test.YtdbhfmdndiphcaaE4T
namespace Go.Den
noncomputable section

variable {P : Program} {cfg : Cfg}

theorem loop_unit {α : Type} (body : α → PUnit → Sem (ForInStep PUnit)) : ∀ (l : List α), (∀ f ∈ l, pureRun P (body f ⟨⟩) = some (.yield ⟨⟩)) → pureRun P (forIn l (⟨⟩ : PUnit) body) = some ⟨⟩ := by
  intro l
  induction l with
  | nil => intro _; rfl
  | cons a l ih =>
    intro h
    rw [List.forIn_cons, pureRun_bind, h a (by simp), Option.bind_some]
    exact ih fun f hf => h f (List.mem_cons_of_mem _ hf)

theorem check_fields {b : Bool} {d m : Nat} (ih : ∀ (t : TypeId) (ks : List AK), atomsT P d t = some ks → ∀ (xs : List Value) (x : Value), Rep P t xs x → fitsL ks xs = true → pureRun P (Instr.checkKey b m t x) = some ⟨⟩) :
    ∀ (fs : List Field) (off : Nat) (ks : List AK), fieldsA (atomsT P d) fs off = some ks → ∀ (xs : List Value), fitsL ks (xs.drop off) = true → off ≤ xs.length →
    pureRun P (forIn fs (⟨⟩ : PUnit) fun f _ => (if f.name ≠ "_" then (do
      let a ← part f.type ⟨xs⟩ f.offset
      Instr.checkKey b m f.type a
      pure (ForInStep.yield ⟨⟩)) else pure (ForInStep.yield ⟨⟩) : Sem (ForInStep PUnit))) = some ⟨⟩ := by
  intro fs
  induction fs with
  | nil => intro off ks h xs fx _; rfl
  | cons f fs ih2 =>
    intro off ks h xs fx hx
    unfold fieldsA at h
    split at h
    · rename_i hf
      obtain ⟨hname, hoff⟩ := hf
      split at h
      · rename_i k1 hk1
        split at h
        · rename_i k2 hk2
          cases h
          obtain ⟨fx1, fx2⟩ := fitsL_append fx
          have lx := fitsL_length fx
          rw [List.length_append, List.length_drop] at lx
          obtain ⟨va, ha, ra⟩ := part_rep hk1 (xs := xs) (off := off) (by omega)
          have he := ih _ _ hk1 _ _ ra fx1
          have hstep : pureRun P (if f.name ≠ "_" then (do
              let a ← part f.type ⟨xs⟩ f.offset
              Instr.checkKey b m f.type a
              pure (ForInStep.yield ⟨⟩)) else pure (ForInStep.yield ⟨⟩) : Sem (ForInStep PUnit)) = some (.yield ⟨⟩) := by
            rw [if_pos hname, hoff, pureRun_bind, ha, Option.bind_some, pureRun_bind, he, Option.bind_some]
            rfl
          rw [List.forIn_cons, pureRun_bind, hstep, Option.bind_some]
          rw [List.drop_drop] at fx2
          exact ih2 (off + k1.length) k2 hk2 xs fx2 (by omega)
        · cases h
      · cases h
    · cases h

theorem check_ok {b : Bool} : ∀ (d : Nat) (t : TypeId) (ks : List AK), atomsT P d t = some ks → ∀ (m : Nat), d ≤ m → ∀ (xs : List Value) (x : Value), Rep P t xs x → fitsL ks xs = true → pureRun P (Instr.checkKey b m t x) = some ⟨⟩ := by
  intro d
  induction d with
  | zero => intro t ks h; cases h
  | succ d ih =>
    intro t ks h m hm xs x hx fx
    obtain ⟨m, rfl⟩ : ∃ m', m = m' + 1 := ⟨m - 1, by omega⟩
    have hcopy := h
    unfold atomsT at h
    split at h
    · rename_i k hu
      cases h
      obtain ⟨rfl, _⟩ := atom_rep hcopy hx hx hu rfl
      simp only [fitsL, Bool.and_true] at fx
      obtain ⟨a, rfl⟩ := fits_int fx
      show pureRun P ((underlying t).bind fun u => _) = _
      rw [pureUnder t hu]
      rfl
    · rename_i hu
      cases h
      obtain ⟨rfl, _⟩ := atom_rep hcopy hx hx hu rfl
      simp only [fitsL, Bool.and_true] at fx
      obtain ⟨a, rfl⟩ := fits_str fx
      show pureRun P ((underlying t).bind fun u => _) = _
      rw [pureUnder t hu]
      rfl
    · rename_i hu
      cases h
      obtain ⟨rfl, _⟩ := atom_rep hcopy hx hx hu rfl
      simp only [fitsL, Bool.and_true] at fx
      obtain ⟨a, rfl⟩ := fits_bool fx
      show pureRun P ((underlying t).bind fun u => _) = _
      rw [pureUnder t hu]
      rfl
    · rename_i fields hu
      split at h
      · cases h
      · split at h
        · rename_i ks' hf
          split at h
          · cases h
            obtain ⟨rfl, _⟩ := agg_rep hx hx hu rfl
            have hl := check_fields (b := b) (m := m) (fun t ks h xs x => ih t ks h m (by omega) xs x) fields.toList 0 ks hf xs (by simpa using fx) (by omega)
            show pureRun P ((underlying t).bind fun u => _) = _
            rw [pureUnder t hu]
            simp only [pureRun_bind, ← Array.forIn_toList]
            first
              | exact hl
              | (rw [hl]; rfl)
          · cases h
        · cases h
    · rename_i len elem hu
      split at h
      · rename_i k1 hk1
        split at h
        · rename_i hs
          cases h
          simp only [Bool.and_eq_true] at hs
          obtain ⟨i, hi, hsz⟩ := sizeOk_some hs.1
          obtain ⟨rfl, _⟩ := agg_rep hx hx hu rfl
          have lx := fitsL_length fx
          rw [repeatA_length] at lx
          show pureRun P ((underlying t).bind fun u => _) = _
          rw [pureUnder t hu]
          simp only [pureRun_bind, Std.Legacy.Range.forIn_eq_forIn_range', Std.Legacy.Range.size, Nat.sub_zero, Nat.add_one_sub_one, Nat.div_one]
          have hl : pureRun P (forIn (List.range' 0 len) (⟨⟩ : PUnit) fun j _ => (do
              let n ← sizeOf elem
              let a ← part elem ⟨xs⟩ (j * n)
              Instr.checkKey b m elem a
              pure (ForInStep.yield ⟨⟩) : Sem (ForInStep PUnit))) = some ⟨⟩ := by
            apply loop_unit
            intro j hj
            rw [List.mem_range'_1] at hj
            have hb : j * k1.length + k1.length ≤ len * k1.length := by
              have : (j + 1) * k1.length ≤ len * k1.length := Nat.mul_le_mul_right _ (by omega)
              rw [Nat.succ_mul] at this
              exact this
            obtain ⟨va, ha, ra⟩ := part_rep hk1 (xs := xs) (off := j * k1.length) (by omega)
            have he := ih _ _ hk1 m (by omega) _ _ ra (fits_rows len fx j (by omega))
            rw [pureRun_bind, pure_size hi, Option.bind_some, hsz, pureRun_bind, ha, Option.bind_some, pureRun_bind, he, Option.bind_some]
            rfl
          first
            | exact hl
            | (rw [hl]; rfl)
        · cases h
      · cases h
    · cases h

/- KEYS OF STRUCTS -/

def structT (P : Program) (t : TypeId) : Bool := match tyU P t with | some (.struct _) => true | _ => false
theorem structT_some {t : TypeId} (h : structT P t = true) : ∃ fs, tyU P t = some (.struct fs) := by
  unfold structT at h
  split at h
  · exact ⟨_, by assumption⟩
  · cases h

structure KeyT (P : Program) (kt : TypeId) {α : Type} [DecidableEq α] (enc : α → List Value) : Prop where
  ht : structT P kt = true
  fits : ∃ K, atomsT P 12 kt = some K ∧ ∀ a, fitsL K (enc a) = true
  eq : ∀ a b, eqL (enc a) (enc b) = decide (a = b)
  flat : ∀ a, flatL (enc a) = true

section
variable {α : Type} [DecidableEq α] {enc : α → List Value} {kt : TypeId}

def mapK (enc : α → List Value) (m : List (α × Value)) : List (Value × Value) := m.map fun p => (.agg ⟨enc p.1⟩, p.2)
def findKK (a : α) : List (α × Value) → Nat → Option (Nat × Value)
  | [], _ => none
  | p :: r, i => if a = p.1 then some (i, p.2) else findKK a r (i + 1)
def getK (m : List (α × Value)) (a : α) : Option Value := (findKK a m 0).map (·.2)

theorem asking_K (k : KeyT P kt enc) (a : α) : ∀ (m : List (α × Value)) (i : Nat), pureRun P (Instr.findAsking kt (.agg ⟨enc a⟩) (entriesOf (mapK enc m)) i) = some (findKK a m i) := by
  obtain ⟨fs, hu⟩ := structT_some k.ht
  obtain ⟨K, hK, hf⟩ := k.fits
  have rep : ∀ b : α, Rep P kt (enc b) (.agg ⟨enc b⟩) := fun b => ⟨_, hu, .inl ⟨rfl, rfl⟩⟩
  intro m
  induction m with
  | nil => intro i; rfl
  | cons p r ih =>
    intro i
    have he : pureRun P (Op.equal kt (.agg ⟨enc a⟩) (.agg ⟨enc p.1⟩)) = some (decide (a = p.1)) := by
      rw [← k.eq]
      exact equal_ok 12 kt K hK _ (by decide) _ _ _ _ (rep a) (rep p.1) (hf a) (hf p.1)
    show pureRun P ((Op.equal kt (.agg ⟨enc a⟩) (.agg ⟨enc p.1⟩)).bind fun q => if q = true then Sem.pure (some (i, p.2)) else Instr.findAsking kt (.agg ⟨enc a⟩) (entriesOf (mapK enc r)) (i + 1)) = _
    rw [pureRun_bind', he, Option.bind_some]
    by_cases hq : a = p.1
    · simp only [findKK, hq, decide_true, if_true]; rfl
    · simp only [findKK, hq, decide_false, Bool.false_eq_true, if_false]; exact ih (i + 1)

theorem findA_K (k : KeyT P kt enc) (b : Bool) (a : α) (m : List (α × Value)) : findA P b kt (.agg ⟨enc a⟩) (mapK enc m) = some (findKK a m 0) := by
  obtain ⟨fs, hu⟩ := structT_some k.ht
  obtain ⟨K, hK, hf⟩ := k.fits
  unfold findA
  rw [pureRun_bind, check_ok 12 kt K hK 10000 (by omega) (enc a) (.agg ⟨enc a⟩) ⟨_, hu, .inl ⟨rfl, rfl⟩⟩ (hf a), Option.bind_some]
  show pureRun P ((underlying kt).bind fun d => _) = _
  rw [pureUnder kt hu]
  cases m with
  | nil => rfl
  | cons p r =>
    show pureRun P (Instr.findAsking kt (.agg ⟨enc a⟩) (entriesOf (mapK enc (p :: r))) 0) = _
    exact asking_K k a (p :: r) 0

theorem lookX_K (k : KeyT P kt enc) {zero : Value} {ok : Bool} {a : α} {m : List (α × Value)} : lookX P kt zero ok (.agg ⟨enc a⟩) (some (.map (mapK enc m))) = val (okV ok zero (getK m a)) := by
  show (bif flat (.agg ⟨enc a⟩) then lookRes ok zero (findA P (mapK enc m).isEmpty kt (.agg ⟨enc a⟩) (mapK enc m)) else .none) = _
  rw [show flat (.agg ⟨enc a⟩) = true from k.flat a, cond_true, findA_K k]
  unfold getK
  cases findKK a m 0 <;> rfl

def putK (a : α) (v : Value) : List (α × Value) → List (α × Value)
  | [] => [(a, v)]
  | p :: r => if a = p.1 then (a, v) :: r else p :: putK a v r

theorem findKK_some {a : α} {v : Value} : ∀ {m : List (α × Value)} {i j : Nat}, findKK a m i = some (j, v) → ∃ h : j - i < m.length, i ≤ j ∧ (m[j - i]).1 = a ∧ ∀ w, putK a w m = m.set (j - i) (a, w) := by
  intro m
  induction m with
  | nil => intro i j h; cases h
  | cons p r ih =>
    intro i j h
    simp only [findKK] at h
    by_cases hq : a = p.1
    · rw [if_pos hq] at h
      cases h
      refine ⟨by simp, Nat.le_refl _, ?_, fun w => ?_⟩
      · simp [hq]
      · simp [putK, hq]
    · rw [if_neg hq] at h
      obtain ⟨h1, h2, h3, h4⟩ := ih h
      have e : j - i = (j - (i + 1)) + 1 := by omega
      refine ⟨by simp only [List.length_cons]; omega, by omega, ?_, fun w => ?_⟩
      · simp only [e, List.getElem_cons_succ]; exact h3
      · rw [e, List.set_cons_succ, ← h4 w]; simp [putK, hq]

theorem findKK_none {a : α} : ∀ {m : List (α × Value)} {i : Nat}, findKK a m i = none → ∀ w, putK a w m = m ++ [(a, w)] := by
  intro m
  induction m with
  | nil => intro i _ w; rfl
  | cons p r ih =>
    intro i h w
    simp only [findKK] at h
    by_cases hq : a = p.1
    · rw [if_pos hq] at h; cases h
    · rw [if_neg hq] at h
      simp only [putK, if_neg hq, ih h w, List.cons_append]

theorem same_refl {K : List AK} : ∀ {l : List Value}, fitsL K l = true → ∀ n, (l.zip l).all (fun (x, y) => Instr.sameBits n x y) = true := by
  induction K with
  | nil => intro l h n; cases l with | nil => rfl | cons v r => cases h
  | cons k K ih =>
    intro l h n
    cases l with
    | nil => rfl
    | cons v r =>
      simp only [fitsL, Bool.and_eq_true] at h
      simp only [List.zip_cons_cons, List.all_cons, Bool.and_eq_true]
      refine ⟨?_, ih h.2 n⟩
      cases k with
      | int j => obtain ⟨x, rfl⟩ := fits_int h.1; simp [Instr.sameBits]
      | str => obtain ⟨⟨⟨x⟩⟩, rfl⟩ := fits_str h.1; simp only [Instr.sameBits]; rw [ba_beq]; simp
      | bool => obtain ⟨x, rfl⟩ := fits_bool h.1; simp [Instr.sameBits]

theorem updX_K (k : KeyT P kt enc) {h : List ABlk} {r : Nat} {a : α} {x : Value} {m : List (α × Value)} (hr : r < h.length) : updX P h r kt (.agg ⟨enc a⟩) x (some (.map (mapK enc m))) = .eff undef (HP (h.set r (.map (mapK enc (putK a x m))))) := by
  show (bif flat (.agg ⟨enc a⟩) && Nat.blt r h.length then updRes (HP h) r (mapK enc m) (.agg ⟨enc a⟩) x (findA P false kt (.agg ⟨enc a⟩) (mapK enc m)) else .none) = _
  rw [show flat (.agg ⟨enc a⟩) = true from k.flat a, nblt, decide_eq_true hr, Bool.and_self, cond_true, findA_K k]
  cases hq : findKK a m 0 with
  | none =>
    rw [findKK_none hq]
    show ARes.eff undef ((HP h).set r (.map (mapK enc m ++ [(.agg ⟨enc a⟩, x)]))) = _
    rw [HP_set _ _ _ hr]
    simp [mapK]
  | some q =>
    obtain ⟨j, v⟩ := q
    obtain ⟨h1, _, h3, h4⟩ := findKK_some hq
    simp only [Nat.sub_zero] at h1 h3 h4
    rw [h4]
    have e1 : (mapK enc m)[j]? = some (.agg ⟨enc a⟩, (m[j]).2) := by
      rw [mapK, List.getElem?_map, List.getElem?_eq_getElem h1]
      simp only [Option.map_some, h3]
    obtain ⟨K, _, hf⟩ := k.fits
    have e2 : Instr.sameBits 10000 (.agg ⟨enc a⟩) (.agg ⟨enc a⟩) = true := by
      show ((⟨enc a⟩ : Array Value).size == (⟨enc a⟩ : Array Value).size && ((enc a).zip (enc a)).all fun (x, y) => Instr.sameBits 9999 x y) = true
      rw [same_refl (hf a)]
      simp
    show (match (mapK enc m)[j]? with | some e => (bif Instr.sameBits 10000 e.1 (.agg ⟨enc a⟩) then ARes.eff undef ((HP h).set r (.map ((mapK enc m).set j (.agg ⟨enc a⟩, x)))) else .none) | none => .none) = _
    rw [e1]
    simp only [e2, cond_true]
    rw [HP_set _ _ _ hr]
    simp [mapK, List.map_set]

omit [DecidableEq α] in
theorem mapK_atom {m : List (α × Value)} (h : (m.all fun p => atomV p.2) = true) : atomM (mapK enc m) = true := by
  unfold atomM mapK
  rw [List.all_map]
  exact h

/- SETS OF KEYS -/

def setK (enc : α → List Value) (l : List α) : List (Value × Value) := mapK enc (l.map fun a => (a, .bool true))
omit [DecidableEq α] in
theorem setK_nil : setK enc [] = [] := rfl
omit [DecidableEq α] in
theorem setK_fz (l : List α) : refsM (setK enc l) = [] ∧ (∀ m, renM m (setK enc l) = setK enc l) ∧ toksM (setK enc l) = [] := by
  have h : atomM (setK enc l) = true := mapK_atom (by rw [List.all_map]; simp [Function.comp_def, atomV])
  exact ⟨refsM_atom h, fun _ => renM_atom h, toksM_atom h⟩
theorem find_set (a : α) : ∀ (l : List α) (i : Nat), (findKK a (l.map fun a => (a, .bool true)) i).map (·.2) = if a ∈ l then some (.bool true) else none := by
  intro l
  induction l with
  | nil => intro i; rfl
  | cons b l ih =>
    intro i
    simp only [List.map_cons, findKK]
    by_cases hq : a = b
    · simp [hq]
    · rw [if_neg hq, ih]; simp [hq]
theorem look_set (k : KeyT P kt enc) {a : α} {l : List α} : lookX P kt (.bool false) false (.agg ⟨enc a⟩) (some (.map (setK enc l))) = val (.bool (decide (a ∈ l))) := by
  rw [setK, lookX_K k, getK, find_set]
  by_cases h : a ∈ l <;> simp [h] <;> rfl
theorem put_set {a : α} {l : List α} (h : a ∉ l) : putK a (.bool true) (l.map fun a => (a, .bool true)) = (l ++ [a]).map fun a => (a, .bool true) := by
  induction l with
  | nil => rfl
  | cons b l ih =>
    simp only [List.mem_cons, not_or] at h
    simp only [List.map_cons, putK, if_neg h.1, List.cons_append, ih h.2]
theorem upd_set (k : KeyT P kt enc) {h : List ABlk} {r : Nat} {a : α} {l : List α} (hr : r < h.length) (ha : a ∉ l) : updX P h r kt (.agg ⟨enc a⟩) (.bool true) (some (.map (setK enc l))) = .eff undef (HP (h.set r (.map (setK enc (l ++ [a]))))) := by
  rw [setK, updX_K k hr, put_set ha]
  rfl
end

theorem set_nil_block {α : Type} [DecidableEq α] {enc : α → List Value} : ABlk.map [] = .map (setK enc ([] : List α)) := rfl

end
end Go.Den
