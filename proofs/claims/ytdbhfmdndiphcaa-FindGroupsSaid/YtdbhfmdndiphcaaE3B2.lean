/-
  THE ENGINE FOR UNKNOWN VALUES, part B2: two values without addresses are equal just where their cells are.
-/
import Derived.Test.YtdbhfmdndiphcaaE3B
namespace Go.Den
noncomputable section

variable {P : Program}

theorem pureUnder (t : TypeId) {d : TypeDesc} (h : tyU P t = some d) {α : Type} (f : TypeDesc → Sem α) : pureRun P ((underlying t).bind f) = pureRun P (f d) := by
  rw [pureRun_bind', pureRun_under t h, Option.bind_some]

theorem pure_isAgg {t : TypeId} {d : TypeDesc} (h : tyU P t = some d) : pureRun P (isAgg t) = some (isAggD d) := by
  show pureRun P ((underlying t).bind fun d => _) = _
  rw [pureUnder t h]
  cases d <;> rfl

theorem pure_info {t : TypeId} {i : TypeInfo} (h : tyInfo P t = some i) : pureRun P (typeInfo t) = some i := by
  unfold tyInfo at h
  unfold typeInfo
  show pureRun P ((program).bind fun p => _) = _
  rw [pureRun_bind']
  simp only [program, pureRun, Option.bind_some, h]
  rfl

theorem pure_size {t : TypeId} {i : TypeInfo} (h : tyInfo P t = some i) : pureRun P (sizeOf t) = some i.size := by
  show pureRun P ((typeInfo t).bind fun i => Sem.pure i.size) = _
  rw [pureRun_bind', pure_info h]
  rfl

theorem pure_part1 {t : TypeId} {d : TypeDesc} (ht : tyU P t = some d) (hd : isAggD d = false) {cs : Array Value} {off : Nat} {v : Value} (h : cs[off]? = some v) : pureRun P (part t cs off) = some v := by
  unfold part
  rw [pureRun_bind, pure_isAgg ht, Option.bind_some, hd]
  simp only [Bool.false_eq_true, if_false, h]
  rfl

theorem pure_partN {t : TypeId} {d : TypeDesc} {i : TypeInfo} (ht : tyU P t = some d) (hd : isAggD d = true) (hi : tyInfo P t = some i) {cs : Array Value} {off : Nat} : pureRun P (part t cs off) = some (.agg (cs.extract off (off + i.size))) := by
  unfold part
  rw [pureRun_bind, pure_isAgg ht, Option.bind_some, hd]
  simp only [if_true]
  rw [pureRun_bind, pure_size hi]
  rfl

/-- A value of these cells. -/
def Rep (P : Program) (t : TypeId) (xs : List Value) (v : Value) : Prop := ∃ d, tyU P t = some d ∧ ((isAggD d = true ∧ v = .agg ⟨xs⟩) ∨ (isAggD d = false ∧ xs = [v]))

theorem fitsL_length : ∀ {ks : List AK} {xs : List Value}, fitsL ks xs = true → ks.length = xs.length := by
  intro ks
  induction ks with
  | nil => intro xs h; cases xs with | nil => rfl | cons v l => cases h
  | cons k r ih =>
    intro xs h
    cases xs with
    | nil => cases h
    | cons v l =>
      simp only [fitsL, Bool.and_eq_true] at h
      simp only [List.length_cons, ih h.2]

theorem fitsL_append : ∀ {a b : List AK} {xs : List Value}, fitsL (a ++ b) xs = true → fitsL a (xs.take a.length) = true ∧ fitsL b (xs.drop a.length) = true := by
  intro a
  induction a with
  | nil => intro b xs h; exact ⟨rfl, h⟩
  | cons k r ih =>
    intro b xs h
    cases xs with
    | nil => cases h
    | cons v l =>
      simp only [List.cons_append, fitsL, Bool.and_eq_true] at h
      obtain ⟨h1, h2⟩ := ih h.2
      exact ⟨by simp only [List.length_cons, List.take_succ_cons, fitsL, h.1, h1, Bool.and_self], by simpa using h2⟩

theorem eqL_split : ∀ (n : Nat) (xs ys : List Value), xs.length = ys.length → eqL xs ys = (eqL (xs.take n) (ys.take n) && eqL (xs.drop n) (ys.drop n)) := by
  intro n
  induction n with
  | zero => intro xs ys _; simp [eqL]
  | succ n ih =>
    intro xs ys h
    cases xs with
    | nil => cases ys with | nil => rfl | cons b s => cases h
    | cons a r =>
      cases ys with
      | nil => cases h
      | cons b s =>
        simp only [List.length_cons, Nat.add_right_cancel_iff] at h
        simp only [List.take_succ_cons, List.drop_succ_cons, eqL, ih r s h, Bool.and_assoc]

theorem sizeOk_some {t : TypeId} {ks : List AK} (h : sizeOk P t ks = true) : ∃ i, tyInfo P t = some i ∧ i.size = ks.length := by
  unfold sizeOk at h
  split at h
  · rename_i i hi; exact ⟨i, hi, by simpa using h⟩
  · cases h

/-- What is known of a type of plain cells. -/
theorem atoms_cases {d : Nat} {t : TypeId} {ks : List AK} (h : atomsT P d t = some ks) : ∃ dsc, tyU P t = some dsc ∧ ((isAggD dsc = false ∧ ∃ k, ks = [k]) ∨ (isAggD dsc = true ∧ sizeOk P t ks = true)) := by
  cases d with
  | zero => cases h
  | succ d =>
    unfold atomsT at h
    split at h
    · rename_i hu; cases h; exact ⟨_, hu, .inl ⟨rfl, _, rfl⟩⟩
    · rename_i hu; cases h; exact ⟨_, hu, .inl ⟨rfl, _, rfl⟩⟩
    · rename_i hu; cases h; exact ⟨_, hu, .inl ⟨rfl, _, rfl⟩⟩
    · rename_i hu
      split at h
      · cases h
      · split at h
        · split at h
          · rename_i hs; cases h; exact ⟨_, hu, .inr ⟨rfl, hs⟩⟩
          · cases h
        · cases h
    · rename_i hu
      split at h
      · split at h
        · rename_i hs; cases h; simp only [Bool.and_eq_true] at hs; exact ⟨_, hu, .inr ⟨rfl, hs.2⟩⟩
        · cases h
      · cases h
    · cases h

theorem part_rep {d : Nat} {t : TypeId} {ks : List AK} (h : atomsT P d t = some ks) {xs : List Value} {off : Nat} (hl : off + ks.length ≤ xs.length) : ∃ v, pureRun P (part t ⟨xs⟩ off) = some v ∧ Rep P t ((xs.drop off).take ks.length) v := by
  obtain ⟨dsc, hu, ⟨ha, k, rfl⟩ | ⟨ha, hs⟩⟩ := atoms_cases h
  · simp only [List.length_cons, List.length_nil] at hl
    have h1 : (⟨xs⟩ : Array Value)[off]? = some xs[off] := by simp
    refine ⟨xs[off], pure_part1 hu ha h1, dsc, hu, .inr ⟨ha, ?_⟩⟩
    rw [List.drop_eq_getElem_cons (by omega)]
    rfl
  · obtain ⟨i, hi, hsz⟩ := sizeOk_some hs
    refine ⟨_, pure_partN hu ha hi, dsc, hu, .inl ⟨ha, ?_⟩⟩
    congr 1
    apply Array.ext'
    rw [Array.toList_extract, List.extract_eq_take_drop, hsz]
    simp

/-- A loop that stops at the first 'no'. -/
theorem loop_all {α : Type} (p : α → Bool) (body : α → Option Bool × Unit → Sem (ForInStep (Option Bool × Unit))) : ∀ (l : List α), (∀ f ∈ l, pureRun P (body f (none, ())) = some (if p f then .yield (none, ()) else .done (some false, ()))) →
    pureRun P (forIn l ((none, ()) : Option Bool × Unit) body) = some (if l.all p then (none, ()) else (some false, ())) := by
  intro l
  induction l with
  | nil => intro _; rfl
  | cons a l ih =>
    intro h
    rw [List.forIn_cons, pureRun_bind, h a (by simp), Option.bind_some]
    cases hp : p a with
    | false => simp [hp]; rfl
    | true =>
      simp only [if_true, List.all_cons, hp, Bool.true_and]
      exact ih fun f hf => h f (List.mem_cons_of_mem _ hf)

theorem atom_rep {d : Nat} {t : TypeId} {ks : List AK} (h : atomsT P (d + 1) t = some ks) {xs ys : List Value} {x y : Value} (hx : Rep P t xs x) (hy : Rep P t ys y) {dsc : TypeDesc} (hu : tyU P t = some dsc) (ha : isAggD dsc = false) : xs = [x] ∧ ys = [y] := by
  obtain ⟨d1, hu1, h1⟩ := hx
  obtain ⟨d2, hu2, h2⟩ := hy
  rw [hu] at hu1 hu2
  cases hu1; cases hu2
  rcases h1 with ⟨h1, _⟩ | ⟨_, h1⟩
  · rw [ha] at h1; cases h1
  · rcases h2 with ⟨h2, _⟩ | ⟨_, h2⟩
    · rw [ha] at h2; cases h2
    · exact ⟨h1, h2⟩

theorem agg_rep {t : TypeId} {xs ys : List Value} {x y : Value} (hx : Rep P t xs x) (hy : Rep P t ys y) {dsc : TypeDesc} (hu : tyU P t = some dsc) (ha : isAggD dsc = true) : x = .agg ⟨xs⟩ ∧ y = .agg ⟨ys⟩ := by
  obtain ⟨d1, hu1, h1⟩ := hx
  obtain ⟨d2, hu2, h2⟩ := hy
  rw [hu] at hu1 hu2
  cases hu1; cases hu2
  rcases h1 with ⟨_, h1⟩ | ⟨h1, _⟩
  · rcases h2 with ⟨_, h2⟩ | ⟨h2, _⟩
    · exact ⟨h1, h2⟩
    · rw [ha] at h2; cases h2
  · rw [ha] at h1; cases h1

theorem repeatA_length (ks : List AK) (n : Nat) : (repeatA ks n).length = n * ks.length := by
  induction n with
  | zero => simp [repeatA]
  | succ n ih => rw [repeatA, List.length_append, ih, Nat.succ_mul]; omega

/-- Equal parts, one behind the other. -/
theorem eqL_rows (k : Nat) : ∀ (n s : Nat) (xs ys : List Value), xs.length = (s + n) * k → ys.length = (s + n) * k → eqL (xs.drop (s * k)) (ys.drop (s * k)) = (List.range' s n).all fun i => eqL ((xs.drop (i * k)).take k) ((ys.drop (i * k)).take k) := by
  intro n
  induction n with
  | zero =>
    intro s xs ys hx hy
    rw [List.drop_of_length_le (by rw [hx]; simp)]
    rfl
  | succ n ih =>
    intro s xs ys hx hy
    rw [List.range'_succ, List.all_cons, eqL_split k _ _ (by rw [List.length_drop, List.length_drop, hx, hy]), List.drop_drop, List.drop_drop]
    congr 1
    have e : s * k + k = (s + 1) * k := by rw [Nat.succ_mul]
    rw [e]
    exact ih (s + 1) xs ys (by rw [hx]; congr 1; omega) (by rw [hy]; congr 1; omega)

theorem fits_rows {ks : List AK} : ∀ (n : Nat) {xs : List Value}, fitsL (repeatA ks n) xs = true → ∀ i, i < n → fitsL ks ((xs.drop (i * ks.length)).take ks.length) = true := by
  intro n
  induction n with
  | zero => intro xs _ i hi; omega
  | succ n ih =>
    intro xs h i hi
    obtain ⟨h1, h2⟩ := fitsL_append h
    cases i with
    | zero => simpa using h1
    | succ i =>
      have := ih h2 i (by omega)
      rw [List.drop_drop] at this
      rwa [show (i + 1) * ks.length = ks.length + i * ks.length by rw [Nat.succ_mul]; omega]

theorem fits_int {k : IntKind} {v : Value} (h : AK.fits (.int k) v = true) : ∃ n, v = .int k n := by
  unfold AK.fits at h
  split at h
  · rename_i e; cases e; exact ⟨_, by rw [sameKind_eq h]⟩
  · rename_i e; cases e
  · rename_i e; cases e
  · cases h
theorem fits_str {v : Value} (h : AK.fits .str v = true) : ∃ s, v = .string s := by
  unfold AK.fits at h
  split at h
  · rename_i e; cases e
  · exact ⟨_, rfl⟩
  · rename_i e; cases e
  · cases h
theorem fits_bool {v : Value} (h : AK.fits .bool v = true) : ∃ b, v = .bool b := by
  unfold AK.fits at h
  split at h
  · rename_i e; cases e
  · rename_i e; cases e
  · exact ⟨_, rfl⟩
  · cases h

theorem fields_ok {d m : Nat} (ih : ∀ (t : TypeId) (ks : List AK), atomsT P d t = some ks → ∀ (xs ys : List Value) (x y : Value), Rep P t xs x → Rep P t ys y → fitsL ks xs = true → fitsL ks ys = true → pureRun P (Op.equalIn m t x y) = some (eqL xs ys)) :
    ∀ (fs : List Field) (off : Nat) (ks : List AK), fieldsA (atomsT P d) fs off = some ks → ∀ (xs ys : List Value), fitsL ks (xs.drop off) = true → fitsL ks (ys.drop off) = true → off ≤ xs.length → off ≤ ys.length →
    pureRun P (forIn fs ((none, ()) : Option Bool × Unit) fun f _ => (if f.name ≠ "_" then (do
      let a ← part f.type ⟨xs⟩ f.offset
      let b ← part f.type ⟨ys⟩ f.offset
      let r ← Op.equalIn m f.type a b
      if (!r) = true then pure (ForInStep.done (some false, ())) else pure (ForInStep.yield (none, ()))) else pure (ForInStep.yield (none, ())) : Sem (ForInStep (Option Bool × Unit)))) = some (if eqL (xs.drop off) (ys.drop off) then (none, ()) else (some false, ())) := by
  intro fs
  induction fs with
  | nil =>
    intro off ks h xs ys fx fy _ _
    cases h
    have h1 : xs.drop off = [] := by cases hq : xs.drop off with | nil => rfl | cons a l => rw [hq] at fx; cases fx
    rw [h1]
    rfl
  | cons f fs ih2 =>
    intro off ks h xs ys fx fy hx hy
    unfold fieldsA at h
    split at h
    · rename_i hf
      obtain ⟨hname, hoff⟩ := hf
      split at h
      · rename_i k1 hk1
        split at h
        · rename_i k2 hk2
          cases h
          obtain ⟨fx1, fx2⟩ := fitsL_append fx
          obtain ⟨fy1, fy2⟩ := fitsL_append fy
          have lx := fitsL_length fx
          have ly := fitsL_length fy
          rw [List.length_append, List.length_drop] at lx ly
          obtain ⟨va, ha, ra⟩ := part_rep hk1 (xs := xs) (off := off) (by omega)
          obtain ⟨vb, hb, rb⟩ := part_rep hk1 (xs := ys) (off := off) (by omega)
          have he := ih _ _ hk1 _ _ _ _ ra rb fx1 fy1
          have hstep : pureRun P (if f.name ≠ "_" then (do
              let a ← part f.type ⟨xs⟩ f.offset
              let b ← part f.type ⟨ys⟩ f.offset
              let r ← Op.equalIn m f.type a b
              if (!r) = true then pure (ForInStep.done (some false, ())) else pure (ForInStep.yield (none, ()))) else pure (ForInStep.yield (none, ())) : Sem (ForInStep (Option Bool × Unit))) = some (if eqL ((xs.drop off).take k1.length) ((ys.drop off).take k1.length) then .yield (none, ()) else .done (some false, ())) := by
            rw [if_pos hname, hoff, pureRun_bind, ha, Option.bind_some, pureRun_bind, hb, Option.bind_some, pureRun_bind, he, Option.bind_some]
            cases eqL ((xs.drop off).take k1.length) ((ys.drop off).take k1.length) <;> rfl
          rw [List.forIn_cons, pureRun_bind, hstep, Option.bind_some, eqL_split k1.length (xs.drop off) (ys.drop off) (by rw [List.length_drop, List.length_drop]; omega)]
          cases hq : eqL ((xs.drop off).take k1.length) ((ys.drop off).take k1.length) with
          | false => rfl
          | true =>
            simp only [if_true, Bool.true_and]
            rw [List.drop_drop, List.drop_drop]
            rw [List.drop_drop] at fx2 fy2
            exact ih2 (off + k1.length) k2 hk2 xs ys fx2 fy2 (by omega) (by omega)
        · cases h
      · cases h
    · cases h

theorem equal_ok : ∀ (d : Nat) (t : TypeId) (ks : List AK), atomsT P d t = some ks → ∀ (m : Nat), d ≤ m → ∀ (xs ys : List Value) (x y : Value), Rep P t xs x → Rep P t ys y → fitsL ks xs = true → fitsL ks ys = true → pureRun P (Op.equalIn m t x y) = some (eqL xs ys) := by
  intro d
  induction d with
  | zero => intro t ks h; cases h
  | succ d ih =>
    intro t ks h m hm xs ys x y hx hy fx fy
    obtain ⟨m, rfl⟩ : ∃ m', m = m' + 1 := ⟨m - 1, by omega⟩
    have hcopy := h
    unfold atomsT at h
    split at h
    · rename_i k hu
      cases h
      obtain ⟨rfl, rfl⟩ := atom_rep hcopy hx hy hu rfl
      simp only [fitsL, Bool.and_true] at fx fy
      obtain ⟨a, rfl⟩ := fits_int fx
      obtain ⟨b, rfl⟩ := fits_int fy
      show pureRun P ((underlying t).bind fun u => _) = _
      rw [pureUnder t hu]
      simp only [if_true, eqL, atomEq, Bool.and_true]
      rfl
    · rename_i hu
      cases h
      obtain ⟨rfl, rfl⟩ := atom_rep hcopy hx hy hu rfl
      simp only [fitsL, Bool.and_true] at fx fy
      obtain ⟨a, rfl⟩ := fits_str fx
      obtain ⟨b, rfl⟩ := fits_str fy
      show pureRun P ((underlying t).bind fun u => _) = _
      rw [pureUnder t hu]
      simp only [eqL, atomEq, Bool.and_true]
      rfl
    · rename_i hu
      cases h
      obtain ⟨rfl, rfl⟩ := atom_rep hcopy hx hy hu rfl
      simp only [fitsL, Bool.and_true] at fx fy
      obtain ⟨a, rfl⟩ := fits_bool fx
      obtain ⟨b, rfl⟩ := fits_bool fy
      show pureRun P ((underlying t).bind fun u => _) = _
      rw [pureUnder t hu]
      simp only [eqL, atomEq, Bool.and_true]
      rfl
    · rename_i fields hu
      split at h
      · cases h
      · rename_i hstood
        split at h
        · rename_i ks' hf
          split at h
          · cases h
            obtain ⟨rfl, rfl⟩ := agg_rep hx hy hu rfl
            have hl := fields_ok (m := m) (fun t ks h xs ys x y => ih t ks h m (by omega) xs ys x y) fields.toList 0 ks hf xs ys (by simpa using fx) (by simpa using fy) (by omega) (by omega)
            show pureRun P ((underlying t).bind fun u => _) = _
            rw [pureUnder t hu]
            show pureRun P ((program).bind fun p => _) = _
            rw [pureRun_bind']
            simp only [program, pureRun, Option.bind_some, hstood, Bool.false_eq_true, if_false]
            rw [pureRun_bind, ← Array.forIn_toList, hl, Option.bind_some]
            simp only [List.drop_zero]
            cases eqL xs ys <;> rfl
          · cases h
        · cases h
    · rename_i len elem hu
      split at h
      · rename_i k1 hk1
        split at h
        · rename_i hs
          cases h
          simp only [Bool.and_eq_true] at hs
          obtain ⟨i, hi, hsz⟩ := sizeOk_some hs.1
          obtain ⟨rfl, rfl⟩ := agg_rep hx hy hu rfl
          have lx := fitsL_length fx
          have ly := fitsL_length fy
          rw [repeatA_length] at lx ly
          show pureRun P ((underlying t).bind fun u => _) = _
          rw [pureUnder t hu]
          show pureRun P ((sizeOf elem).bind fun n => _) = _
          rw [pureRun_bind', pure_size hi, Option.bind_some, hsz, pureRun_bind]
          simp only [Std.Legacy.Range.forIn_eq_forIn_range', Std.Legacy.Range.size, Nat.sub_zero, Nat.add_one_sub_one, Nat.div_one]
          rw [loop_all (fun i => eqL ((xs.drop (i * k1.length)).take k1.length) ((ys.drop (i * k1.length)).take k1.length))]
          · rw [Option.bind_some, ← eqL_rows k1.length len 0 xs ys (by rw [← lx, Nat.zero_add]) (by rw [← ly, Nat.zero_add])]
            simp only [Nat.zero_mul, List.drop_zero]
            cases eqL xs ys <;> rfl
          · intro j hj
            rw [List.mem_range'_1] at hj
            have hb : j * k1.length + k1.length ≤ len * k1.length := by
              have : (j + 1) * k1.length ≤ len * k1.length := Nat.mul_le_mul_right _ (by omega)
              rw [Nat.succ_mul] at this
              exact this
            obtain ⟨va, ha, ra⟩ := part_rep hk1 (xs := xs) (off := j * k1.length) (by omega)
            obtain ⟨vb, hb, rb⟩ := part_rep hk1 (xs := ys) (off := j * k1.length) (by omega)
            have he := ih _ _ hk1 m (by omega) _ _ _ _ ra rb (fits_rows len fx j (by omega)) (fits_rows len fy j (by omega))
            rw [pureRun_bind, ha, Option.bind_some, pureRun_bind, hb, Option.bind_some, pureRun_bind, he, Option.bind_some]
            cases eqL ((xs.drop (j * k1.length)).take k1.length) ((ys.drop (j * k1.length)).take k1.length) <;> rfl
        · cases h
      · cases h
    · cases h

end
end Go.Den
