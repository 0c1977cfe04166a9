/-
  THE ENGINE, part Ra: blocks under other numbers.
-/
import Derived.Test.YtjihbfdbgamcdaaGreatDoorE2P
import Derived.Test.YtjihbfdbgamcdaaGreatDoorE2Ea
namespace Go.Den
noncomputable section

variable {P : Program}

/- HEAPS OUT OF ROWS -/

theorem addO_n (H : AH) (b : Option ABlk) : (addO H b).n = H.n + 1 := by
  cases b with
  | none => cases H; exact congrArg AH.n (forceN_eq _ _)
  | some b => rw [addO, push_n]

theorem addO_get {H : AH} (hk : okKey H.n = true) (hl : Low H) (b : Option ABlk) (id : Nat) : (addO H b).get id = if id = H.n then b else H.get id := by
  cases b with
  | some b => exact AH.get_push hk b id
  | none =>
    have e : (addO H none).get id = H.get id := by
      cases H with
      | mk n t => unfold addO; simp only [AH.get]; rw [forceN_eq]
    rw [e]
    split
    · rename_i h
      cases hq : H.get id with
      | none => rfl
      | some c => have := hl id c hq; omega
    · rfl

theorem addO_low {H : AH} (hk : okKey H.n = true) (hl : Low H) (b : Option ABlk) : Low (addO H b) := by
  intro id c hc
  rw [addO_get hk hl] at hc
  rw [addO_n]
  split at hc
  · omega
  · have := hl id c hc; omega

theorem heapOf_nil (H : AH) : heapOf [] H = H := rfl
theorem heapOf_cons (b : Option ABlk) (l : List (Option ABlk)) (H : AH) : heapOf (b :: l) H = heapOf l (addO H b) := rfl

theorem heapOf_spec : ∀ (l : List (Option ABlk)) (H : AH), okKey (H.n + l.length) = true → Low H →
    (heapOf l H).n = H.n + l.length ∧ Low (heapOf l H) ∧ ∀ id, (heapOf l H).get id = if id < H.n then H.get id else (l[id - H.n]?).join := by
  intro l
  induction l with
  | nil =>
    intro H hk hl
    refine ⟨rfl, hl, fun id => ?_⟩
    rw [heapOf_nil]
    split
    · rfl
    · rename_i h
      cases hq : H.get id with
      | none => simp
      | some c => exact absurd (hl id c hq) h
  | cons b l ih =>
    intro H hk hl
    rw [List.length_cons] at hk
    have hk' : okKey H.n = true := okKey_lt hk (by omega)
    obtain ⟨h1, h2, h3⟩ := ih (addO H b) (by rw [addO_n]; rw [show H.n + 1 + l.length = H.n + (l.length + 1) by omega]; exact hk) (addO_low hk' hl b)
    rw [heapOf_cons]
    refine ⟨by rw [h1, addO_n, List.length_cons]; omega, h2, fun id => ?_⟩
    rw [h3, addO_n, addO_get hk' hl]
    by_cases h4 : id < H.n
    · rw [if_pos (by omega), if_neg (by omega), if_pos h4]
    · rw [if_neg h4]
      by_cases h5 : id = H.n
      · subst h5
        rw [if_pos (by omega), if_pos rfl, Nat.sub_self]
        simp
      · rw [if_neg (by omega), show id - H.n = (id - (H.n + 1)) + 1 by omega]
        simp

theorem low_AH0 : Low AH0 := fun id b h => by cases h

/- PLACES IN A ROW -/

theorem memN_iff (n : Nat) : ∀ l : List Nat, memN n l = true ↔ n ∈ l := by
  intro l
  induction l with
  | nil => simp [memN]
  | cons a l ih =>
    simp only [memN]
    cases hq : Nat.beq a n with
    | true => have := Nat.eq_of_beq_eq_true hq; subst this; simp
    | false =>
      rw [cond_false, ih]
      have : ¬ n = a := fun e => by subst e; rw [Nat.beq_refl] at hq; cases hq
      simp [this]

theorem idxOf_spec (n : Nat) : ∀ (l : List Nat) (k : Nat), n ∈ l → ∃ j, idxOf n l k = k + j ∧ l[j]? = some n := by
  intro l
  induction l with
  | nil => intro k h; simp at h
  | cons a l ih =>
    intro k h
    simp only [idxOf]
    cases hq : Nat.beq a n with
    | true => have := Nat.eq_of_beq_eq_true hq; subst this; exact ⟨0, rfl, rfl⟩
    | false =>
      have hne : ¬ n = a := fun e => by subst e; rw [Nat.beq_refl] at hq; cases hq
      simp only [List.mem_cons, hne, false_or] at h
      obtain ⟨j, h1, h2⟩ := ih (k + 1) h
      exact ⟨j + 1, by rw [cond_false, h1]; omega, by simpa using h2⟩

theorem noDup_spec : ∀ {l : List Nat}, noDup l = true → ∀ {i j : Nat} {n : Nat}, l[i]? = some n → l[j]? = some n → i = j := by
  intro l
  induction l with
  | nil => intro _ i j n h; simp at h
  | cons a l ih =>
    intro h i j n h1 h2
    simp only [noDup, Bool.and_eq_true, Bool.not_eq_true'] at h
    have ha : a ∉ l := fun hm => by rw [(memN_iff a l).2 hm] at h; cases h.1
    cases i with
    | zero =>
      cases j with
      | zero => rfl
      | succ j =>
        simp at h1 h2
        subst h1
        exact absurd (List.mem_of_getElem? h2) ha
    | succ i =>
      cases j with
      | zero =>
        simp at h1 h2
        subst h2
        exact absurd (List.mem_of_getElem? h1) ha
      | succ j => exact congrArg (· + 1) (ih h.2 (n := n) (by simpa using h1) (by simpa using h2))

theorem cmpsOf_spec (H : AH) (rs : List (Nat × Nat)) (p : Nat) : ∀ (L : List Nat) (ix : Nat), (cmpsOf H rs p L ix).length = L.length ∧ ∀ (j : Nat) (id : Nat), L[j]? = some id → (cmpsOf H rs p L ix)[j]? = some (id, cmpOk H rs p (ix + j) id) := by
  intro L
  induction L with
  | nil => intro ix; exact ⟨rfl, fun j id h => by simp at h⟩
  | cons a L ih =>
    intro ix
    obtain ⟨h1, h2⟩ := ih (ix + 1)
    refine ⟨by simp [cmpsOf, h1], fun j id h => ?_⟩
    cases j with
    | zero => simp at h; subst h; simp [cmpsOf]
    | succ j =>
      simp only [cmpsOf, List.getElem?_cons_succ]
      rw [h2 j id (by simpa using h), show ix + 1 + j = ix + (j + 1) by omega]

theorem cmpAt_spec : ∀ (cs : List (Nat × Bool)) {j : Nat} {id : Nat} {b : Bool}, (∀ {i j : Nat} {x y : Nat × Bool}, cs[i]? = some x → cs[j]? = some y → x.1 = y.1 → i = j) → cs[j]? = some (id, b) → cmpAt id cs = b := by
  intro cs
  induction cs with
  | nil => intro j id b _ h; simp at h
  | cons a cs ih =>
    intro j id b hu h
    simp only [cmpAt]
    cases j with
    | zero =>
      simp at h
      subst h
      show (bif Nat.beq id id then b else _) = b
      have : Nat.beq id id = true := Nat.beq_refl id
      rw [this, cond_true]
    | succ j =>
      have hne : Nat.beq a.1 id = false := by
        cases hq : Nat.beq a.1 id with
        | false => rfl
        | true =>
          have := hu (i := 0) (j := j + 1) (x := a) (y := (id, b)) rfl h (Nat.eq_of_beq_eq_true hq)
          omega
      rw [hne, cond_false]
      exact ih (fun {i j x y} h1 h2 h3 => by
        have := hu (i := i + 1) (j := j + 1) (by simpa using h1) (by simpa using h2) h3
        omega) (by simpa using h)

/- VALUES -/

/-- A way to turn numbers, and what it does to a renaming. -/
def Turns (m : Nm) (ρ ρ' : Ren) (rs : List (Nat × Nat)) : Prop :=
  ∀ r ∈ rs, ∀ l, ρ r.1 r.2 = some l → ρ' (m r.1 r.2).1 (m r.1 r.2).2 = some l

theorem Turns.sub {m : Nm} {ρ ρ' : Ren} {rs rs' : List (Nat × Nat)} (h : Turns m ρ ρ' rs) (hs : ∀ r ∈ rs', r ∈ rs) : Turns m ρ ρ' rs' := fun r hr => h r (hs r hr)

theorem renVL_length (m : Nm) : ∀ l : List Value, (renVL m l).length = l.length := by
  intro l
  induction l with
  | nil => rfl
  | cons a l ih => simp [renVL, ih]

theorem renVL_get (m : Nm) : ∀ (l : List Value) (i : Nat), (renVL m l)[i]? = (l[i]?).map (renV m) := by
  intro l
  induction l with
  | nil => intro i; simp [renVL]
  | cons a l ih => intro i; cases i with
    | zero => simp [renVL]
    | succ i => simp [renVL, ih]

theorem refsL_mem : ∀ {l : List Value} {v : Value}, v ∈ l → ∀ r ∈ refs v, r ∈ refsL l := by
  intro l
  induction l with
  | nil => intro v h; simp at h
  | cons a l ih =>
    intro v h r hr
    simp only [refsL, List.mem_append]
    simp only [List.mem_cons] at h
    rcases h with rfl | h
    · exact .inl hr
    · exact .inr (ih h r hr)

theorem refsA_get {a : Array Value} {i : Nat} {v : Value} (h : a[i]? = some v) : ∀ r ∈ refs v, r ∈ refsA a := by
  cases a with
  | mk l => exact refsL_mem (List.mem_of_getElem? (by simpa using h))

theorem renVA_size (m : Nm) (a : Array Value) : (renVA m a).size = a.size := by
  cases a with
  | mk l => simp [renVA, renVL_length]

theorem renVA_get (m : Nm) (a : Array Value) (i : Nat) : (renVA m a)[i]? = (a[i]?).map (renV m) := by
  cases a with
  | mk l => simp [renVA, renVL_get]

theorem fnFlat_ren {m : Nm} {fn : Fn} (hf : fnFlat fn = true) (f c : Array Value) : renV m (.func fn f c) = .func fn (renVA m f) (renVA m c) := by
  cases fn <;> first | rfl | cases hf

theorem fnFlat_refs {fn : Fn} (hf : fnFlat fn = true) (f c : Array Value) : refs (.func fn f c) = refsA f ++ refsA c := by
  cases fn <;> first | rfl | cases hf

mutual
theorem ren_flat {m : Nm} : ∀ (v : Value), flat v = true → renV m v = v
  | .bool _, _ => rfl
  | .int _ _, _ => rfl
  | .float _ _, _ => rfl
  | .complex _ _ _, _ => rfl
  | .string _, _ => rfl
  | .pointer none, _ => rfl
  | .pointer (some _), h => by simp [flat] at h
  | .slice none _ _, _ => rfl
  | .slice (some _) _ _, h => by simp [flat] at h
  | .map none, _ => rfl
  | .map (some _), h => by simp [flat] at h
  | .chan _, _ => rfl
  | .nilFunc, _ => rfl
  | .nilIface, _ => rfl
  | .func fn f c, h => by
    simp only [flat, Bool.and_eq_true] at h
    rw [fnFlat_ren h.1, ren_flatA f h.2.1, ren_flatA c h.2.2]
  | .iface t v, h => by simp only [flat] at h; simp only [renV]; rw [ren_flat v h]
  | .agg cs, h => by simp only [flat] at h; simp only [renV]; rw [ren_flatA cs h]
  | .tuple vs, h => by simp only [flat] at h; simp only [renV]; rw [ren_flatA vs h]
theorem ren_flatA {m : Nm} : ∀ (a : Array Value), flatA a = true → renVA m a = a
  | ⟨l⟩, h => by simp only [flatA] at h; simp only [renVA]; rw [ren_flatL l h]
theorem ren_flatL {m : Nm} : ∀ (l : List Value), flatL l = true → renVL m l = l
  | [], _ => rfl
  | v :: r, h => by
    simp only [flatL, Bool.and_eq_true] at h
    simp only [renVL]
    rw [ren_flat v h.1, ren_flatL r h.2]
end

theorem aver_ren (m : Nm) (a : Addr) : (renA m a).block = (m a.block (aver a)).1 ∧ aver (renA m a) = (m a.block (aver a)).2 := by
  refine ⟨rfl, ?_⟩
  show (renSpot a.spot (m a.block (aver a)).2).getD 0 = _
  generalize (m a.block (aver a)).2 = s
  unfold renSpot
  split <;> rfl

theorem toksL_mem : ∀ {l : List Value} {v : Value}, v ∈ l → ∀ r ∈ toks v, r ∈ toksL l := by
  intro l
  induction l with
  | nil => intro v h; simp at h
  | cons a l ih =>
    intro v h r hr
    simp only [toksL, List.mem_append]
    simp only [List.mem_cons] at h
    rcases h with rfl | h
    · exact .inl hr
    · exact .inr (ih h r hr)

theorem toksA_get {a : Array Value} {i : Nat} {v : Value} (h : a[i]? = some v) : ∀ r ∈ toks v, r ∈ toksA a := by
  cases a with
  | mk l => exact toksL_mem (List.mem_of_getElem? (by simpa using h))

theorem fnFlat_toks {fn : Fn} (hf : fnFlat fn = true) (f c : Array Value) : toks (.func fn f c) = toksA f ++ toksA c := by
  cases fn <;> first | rfl | cases hf

/-- Rows with room keep their versions. -/
def Toks (m : Nm) (ts : List Nat) : Prop := ∀ t ∈ ts, ∀ n, (m t n).2 = n

theorem Toks.sub {m : Nm} {ts ts' : List Nat} (h : Toks m ts) (hs : ∀ r ∈ ts', r ∈ ts) : Toks m ts' := fun r hr => h r (hs r hr)

theorem ren_rel {m : Nm} {ρ ρ' : Ren} {v v' : Value} (h : VR ρ v v') : (∀ b i x, ρ.cell b i = some x → ρ'.cell b i = some x) → Turns m ρ ρ' (refs v) → Toks m (toks v) → VR ρ' (renV m v) v' := by
  induction h with
  | flat h => intro _ _ _; rw [ren_flat _ h]; exact .flat h
  | @ptr ρ a l h =>
    intro _ ht _
    have h1 := ht (a.block, aver a) (by simp [refs]) l h
    obtain ⟨e1, e2⟩ := aver_ren m a
    exact VR.ptr (a := renA m a) (by rw [e1, e2]; exact h1)
  | @sliceOpen ρ a l len hl h =>
    intro _ ht _
    have hb : (Nat.beq len 0 && Nat.ble 0 1) = false := by
      cases len with
      | zero => omega
      | succ n => rfl
    have h1 := ht (a.block, aver a) (by simp [refs, hb]) l h
    obtain ⟨e1, e2⟩ := aver_ren m a
    simp only [renV, hb, cond_false]
    exact VR.sliceOpen (a := renA m a) hl (by rw [e1, e2]; exact h1)
  | sliceEmpty => intro _ _ _; exact .sliceEmpty
  | @sliceExact ρ a l len c h =>
    intro _ ht _
    cases hb : (Nat.beq len 0 && Nat.ble (c + 1) 1) with
    | true =>
      simp only [renV, hb, cond_true]
      simp only [Bool.and_eq_true, Nat.beq_eq, Nat.ble_eq] at hb
      obtain ⟨rfl, hc⟩ := hb
      have : c = 0 := by omega
      subst this
      exact .sliceNo
    | false =>
      have h1 := ht (a.block, aver a) (by simp [refs, hb]) l h
      obtain ⟨e1, e2⟩ := aver_ren m a
      simp only [renV, hb, cond_false]
      exact VR.sliceExact (a := renA m a) (by rw [e1, e2]; exact h1)
  | @map ρ r l h =>
    intro _ ht hk
    have h1 := ht (r, 0) (by simp [refs]) l h
    have h2 : (m r 0).2 = 0 := hk r (by simp [toks]) 0
    rw [h2] at h1
    exact .map h1
  | @func ρ fn f c f' c' hn hf hc h1 h2 ih1 ih2 =>
    intro hcell ht hk
    rw [fnFlat_ren hn]
    rw [fnFlat_refs hn] at ht
    rw [fnFlat_toks hn] at hk
    refine .func hn (by rw [renVA_size]; exact hf) (by rw [renVA_size]; exact hc) ?_ ?_
    · intro i v v' a b
      rw [renVA_get, Option.map_eq_some_iff] at a
      obtain ⟨u, hu, rfl⟩ := a
      exact ih1 i u v' hu b hcell (ht.sub fun r hr => List.mem_append.2 (.inl (refsA_get hu r hr))) (hk.sub fun r hr => List.mem_append.2 (.inl (toksA_get hu r hr)))
    · intro i v v' a b
      rw [renVA_get, Option.map_eq_some_iff] at a
      obtain ⟨u, hu, rfl⟩ := a
      exact ih2 i u v' hu b hcell (ht.sub fun r hr => List.mem_append.2 (.inr (refsA_get hu r hr))) (hk.sub fun r hr => List.mem_append.2 (.inr (toksA_get hu r hr)))
  | iface h ih => intro hcell ht hk; exact .iface (ih hcell ht hk)
  | list hn f hc h ih => intro hcell _ _; exact .list hn f (fun i hi => hcell _ _ _ (hc i hi)) fun i v e => (h i v e).mono (Sub.noloc_of hcell)
  | @own ρ t n cs l hl hn hs f hc h ih =>
    intro hcell ht hk
    have h1 := ht (t, n) (by simp [refs, refsTok]) l hl
    have h2 : (m t n).2 = n := hk t (by simp [toks, toksTok]) n
    rw [h2] at h1
    exact .own h1 hn hs f (fun i hi => hcell _ _ _ (hc i hi)) fun i v e => (h i v e).mono (Sub.noloc_of hcell)
  | @optr ρ t n cs l hl hs f hc h ih =>
    intro hcell ht hk
    have h1 := ht (t, n) (by simp [refs, refsTok]) l hl
    have h2 : (m t n).2 = n := hk t (by simp [toks, toksTok]) n
    rw [h2] at h1
    exact .optr h1 hs f (fun i hi => hcell _ _ _ (hc i hi)) fun i v e => (h i v e).mono (Sub.noloc_of hcell)
  | listNo => intro _ _ _; exact .listNo
  | fptr f hc h ih => intro hcell _ _; exact .fptr f (fun i hi => hcell _ _ _ (hc i hi)) fun i v e => (h i v e).mono (Sub.noloc_of hcell)
  | junk => intro _ _ _; exact .junk
  | sliceNo => intro _ _ _; exact .sliceNo
  | @agg ρ cs cs' hs h ih =>
    intro hcell ht hk
    refine .agg (by rw [renVA_size]; exact hs) ?_
    intro i v v' a b
    rw [renVA_get, Option.map_eq_some_iff] at a
    obtain ⟨u, hu, rfl⟩ := a
    exact ih i u v' hu b hcell (ht.sub fun r hr => refsA_get hu r hr) (hk.sub fun r hr => toksA_get hu r hr)
  | @tuple ρ cs cs' hs h ih =>
    intro hcell ht hk
    refine .tuple (by rw [renVA_size]; exact hs) ?_
    intro i v v' a b
    rw [renVA_get, Option.map_eq_some_iff] at a
    obtain ⟨u, hu, rfl⟩ := a
    exact ih i u v' hu b hcell (ht.sub fun r hr => refsA_get hu r hr) (hk.sub fun r hr => toksA_get hu r hr)

/- BLOCKS -/

/-- No numbers beyond the heap's. -/
def Bd (ρ : Ren) (H : AH) : Prop := ∀ id ver, H.n ≤ id → ρ id ver = none

theorem Bd.free {ρ : Ren} {H : AH} (h : Bd ρ H) (n : Nat) : Free ρ H.n n := fun id ver h1 _ => h id ver h1

theorem blocksRefs_mem {H : AH} : ∀ {L : List Nat} {id : Nat}, id ∈ L → ∀ r ∈ refsB (H.get id), r ∈ blocksRefs H L := by
  intro L
  induction L with
  | nil => intro id h; simp at h
  | cons a L ih =>
    intro id h r hr
    simp only [blocksRefs, List.mem_append]
    simp only [List.mem_cons] at h
    rcases h with rfl | h
    · exact .inl hr
    · exact .inr (ih h r hr)

theorem blocksToks_mem {H : AH} : ∀ {L : List Nat} {id : Nat}, id ∈ L → ∀ r ∈ toksB (H.get id), r ∈ blocksToks H L := by
  intro L
  induction L with
  | nil => intro id h; simp at h
  | cons a L ih =>
    intro id h r hr
    simp only [blocksToks, List.mem_append]
    simp only [List.mem_cons] at h
    rcases h with rfl | h
    · exact .inl hr
    · exact .inr (ih h r hr)

theorem hasAll_spec {H : AH} : ∀ {L : List Nat}, hasAll H L = true → ∀ id ∈ L, ∃ b, H.get id = some b := by
  intro L
  induction L with
  | nil => intro _ id h; simp at h
  | cons a L ih =>
    intro h id hi
    simp only [hasAll, Bool.and_eq_true] at h
    simp only [List.mem_cons] at hi
    rcases hi with rfl | hi
    · exact Option.isSome_iff_exists.1 h.1
    · exact ih h.2 id hi

mutual
theorem noRefs_refs : ∀ (v : Value), noRefs v = true → refs v = [] ∧ toks v = [] ∧ ∀ m, renV m v = v
  | .func fn f c, hv => by
    cases hq : fnFlat fn with
    | true =>
      simp only [noRefs, hq, cond_true, Bool.and_eq_true] at hv
      obtain ⟨b1, b2, b3⟩ := noRefs_refsA f hv.1
      obtain ⟨c1, c2, c3⟩ := noRefs_refsA c hv.2
      exact ⟨by rw [fnFlat_refs hq, b1, c1]; rfl, by rw [fnFlat_toks hq, b2, c2]; rfl, fun m => by rw [fnFlat_ren hq, b3, c3]⟩
    | false =>
      simp only [noRefs, hq, cond_false] at hv
      cases fn with
      | yield k =>
        have hc : ∀ t r, c ≠ ⟨.map (some t) :: r⟩ := by
          intro t r e
          subst e
          simp [noRefsA, noRefsL, noRefs] at hv
        refine ⟨?_, ?_, fun m => ?_⟩
        · simp only [refs]
          unfold refsTok
          split
          · rename_i t r; exact absurd rfl (hc t r)
          · rfl
        · simp only [toks]
          unfold toksTok
          split
          · rename_i t r; exact absurd rfl (hc t r)
          · rfl
        · simp only [renV]
          congr 1
          unfold renTok
          split
          · rename_i t r; exact absurd rfl (hc t r)
          · rfl
      | _ => cases hq
  | .iface t v, hv => by
    simp only [noRefs] at hv
    obtain ⟨b1, b2, b3⟩ := noRefs_refs v hv
    exact ⟨by simp only [refs]; exact b1, by simp only [toks]; exact b2, fun m => by simp only [renV]; rw [b3]⟩
  | .agg cs, hv => by
    simp only [noRefs] at hv
    obtain ⟨b1, b2, b3⟩ := noRefs_refsA cs hv
    exact ⟨by simp only [refs]; exact b1, by simp only [toks]; exact b2, fun m => by simp only [renV]; rw [b3]⟩
  | .tuple cs, hv => by
    simp only [noRefs] at hv
    obtain ⟨b1, b2, b3⟩ := noRefs_refsA cs hv
    exact ⟨by simp only [refs]; exact b1, by simp only [toks]; exact b2, fun m => by simp only [renV]; rw [b3]⟩
  | .pointer none, _ => ⟨rfl, rfl, fun _ => rfl⟩
  | .pointer (some _), hv => by simp [noRefs] at hv
  | .map none, _ => ⟨rfl, rfl, fun _ => rfl⟩
  | .map (some _), hv => by simp [noRefs] at hv
  | .slice _ _ _, hv => by simp [noRefs] at hv
  | .bool _, _ => ⟨rfl, rfl, fun _ => rfl⟩
  | .int _ _, _ => ⟨rfl, rfl, fun _ => rfl⟩
  | .float _ _, _ => ⟨rfl, rfl, fun _ => rfl⟩
  | .complex _ _ _, _ => ⟨rfl, rfl, fun _ => rfl⟩
  | .string _, _ => ⟨rfl, rfl, fun _ => rfl⟩
  | .chan _, _ => ⟨rfl, rfl, fun _ => rfl⟩
  | .nilFunc, _ => ⟨rfl, rfl, fun _ => rfl⟩
  | .nilIface, _ => ⟨rfl, rfl, fun _ => rfl⟩
theorem noRefs_refsA : ∀ (a : Array Value), noRefsA a = true → refsA a = [] ∧ toksA a = [] ∧ ∀ m, renVA m a = a
  | ⟨l⟩, hv => by
    simp only [noRefsA] at hv
    obtain ⟨b1, b2, b3⟩ := noRefs_refsL l hv
    exact ⟨by simp only [refsA]; exact b1, by simp only [toksA]; exact b2, fun m => by simp only [renVA]; rw [b3]⟩
theorem noRefs_refsL : ∀ (l : List Value), noRefsL l = true → refsL l = [] ∧ toksL l = [] ∧ ∀ m, renVL m l = l
  | [], _ => ⟨rfl, rfl, fun _ => rfl⟩
  | v :: r, hv => by
    simp only [noRefsL, Bool.and_eq_true] at hv
    obtain ⟨b1, b2, b3⟩ := noRefs_refs v hv.1
    obtain ⟨c1, c2, c3⟩ := noRefs_refsL r hv.2
    exact ⟨by simp [refsL, b1, c1], by simp [toksL, b2, c2], fun m => by simp [renVL, b3, c3]⟩
end

/-- The renaming under the new numbers. -/
def turned (ρ : Ren) (H : AH) (L : List Nat) (cs : List (Nat × Bool)) : Ren :=
  ⟨fun ix ver => match L[ix]? with
    | some id => bif cmpAt id cs then (if ver = 0 then ρ id (topOf (H.get id)) else none) else ρ id ver
    | none => none, ρ.cell⟩

theorem renM_length (m : Nm) : ∀ es, (renM m es).length = es.length := by
  intro es
  induction es with
  | nil => rfl
  | cons e es ih => simp [renM, ih]

theorem renM_get (m : Nm) : ∀ (es : List (Value × Value)) (i : Nat), (renM m es)[i]? = (es[i]?).map fun e => (e.1, renV m e.2) := by
  intro es
  induction es with
  | nil => intro i; simp [renM]
  | cons e es ih => intro i; cases i with
    | zero => simp [renM]
    | succ i => simp [renM, ih]

theorem refsM_mem : ∀ {es : List (Value × Value)} {e : Value × Value}, e ∈ es → (∀ r ∈ refs e.2, r ∈ refsM es) ∧ (∀ r ∈ toks e.2, r ∈ toksM es) := by
  intro es
  induction es with
  | nil => intro e h; simp at h
  | cons a es ih =>
    intro e h
    simp only [List.mem_cons] at h
    simp only [refsM, toksM, List.mem_append]
    rcases h with rfl | h
    · exact ⟨fun r hr => .inl hr, fun r hr => .inl hr⟩
    · exact ⟨fun r hr => .inr ((ih h).1 r hr), fun r hr => .inr ((ih h).2 r hr)⟩

/-- A block's cells, turned. -/
theorem cells_turn {m : Nm} {ρ ρ' : Ren} {b : CBlk} (hwf : b.WF) (hcell : ∀ b i x, ρ.cell b i = some x → ρ'.cell b i = some x) (ht : Turns m ρ ρ' (refsB (some (.cells b)))) (hk : Toks m (toksB (some (.cells b)))) :
    ∀ (i : Nat) (v : Value), (bif b.pf then b.cells else renVL m b.cells)[i]? = some v → ∃ u, b.cells[i]? = some u ∧ ∀ v', VR ρ u v' → VR ρ' v v' := by
  intro i v hv
  cases hp : b.pf with
  | true =>
    rw [hp, cond_true] at hv
    exact ⟨v, hv, fun v' h => h.reloc hcell ((noRefsL_iff _).1 (hwf.pf hp) v (List.mem_of_getElem? hv))⟩
  | false =>
    rw [hp, cond_false, renVL_get, Option.map_eq_some_iff] at hv
    obtain ⟨u, hu, rfl⟩ := hv
    simp only [refsB, hp, cond_false] at ht
    simp only [toksB, hp, cond_false] at hk
    exact ⟨u, hu, fun v' h => ren_rel h hcell (ht.sub (refsL_mem (List.mem_of_getElem? hu))) (hk.sub (toksL_mem (List.mem_of_getElem? hu)))⟩

theorem turn_len (m : Nm) (b : CBlk) : (bif b.pf then b.cells else renVL m b.cells).length = b.cells.length := by
  cases b.pf with
  | true => rfl
  | false => exact renVL_length m _

theorem turn_noRefs {m : Nm} {b : CBlk} (hwf : b.WF) (hp : b.pf = true) : noRefsL (bif b.pf then b.cells else renVL m b.cells) = true := by
  rw [hp, cond_true]
  exact hwf.pf hp

/-- What the engine's renumbering comes to. -/
theorem norm_ok {H : AH} {p : Nat} {vs : List Value} {N : Nrm} (h : normA H p vs = some N) {ρ : Ren} {B : Nat} {w : World} (hR : Rel ρ B H w) :
    Rel (turned ρ H N.L (cmpsOf H (refsL vs ++ blocksRefs H N.L) p N.L 0)) B N.H w ∧ Bd (turned ρ H N.L (cmpsOf H (refsL vs ++ blocksRefs H N.L) p N.L 0)) N.H ∧ N.H.n = N.L.length ∧
    (∀ (v v' : Value), v ∈ vs → VR ρ v v' → VR (turned ρ H N.L (cmpsOf H (refsL vs ++ blocksRefs H N.L) p N.L 0)) (renV N.m v) v') ∧ noDup N.L = true ∧ hasAll H N.L = true ∧
    (∀ ix, (N.H.get ix).isSome = true → ix < N.L.length) ∧ (∀ ix, ix < N.L.length → (N.H.get ix).isSome = true) ∧ (∀ ix, ix < p → N.L[ix]? = some ix) ∧ p ≤ N.L.length ∧
    (∀ (ix id : Nat), N.L[ix]? = some id → cmpAt id (cmpsOf H (refsL vs ++ blocksRefs H N.L) p N.L 0) = cmpOk H (refsL vs ++ blocksRefs H N.L) p ix id) ∧
    (∀ (ix id : Nat), N.L[ix]? = some id → cmpAt id (cmpsOf H (refsL vs ++ blocksRefs H N.L) p N.L 0) = true → p ≤ ix ∧ ∃ b, H.get id = some (.cells b) ∧ b.lens ≠ []) := by
  unfold normA normK at h
  split at h
  · rename_i L _
    generalize hrs : refsL vs ++ blocksRefs H L = rs at h
    generalize hcs : cmpsOf H rs p L 0 = cs at h
    cases hq : (noDup L && (pins p L 0 && hasAll H L && (refsOk L rs && (okKey L.length && toksOk cs (toksL vs ++ blocksToks H L))))) with
    | false => rw [hq, cond_false] at h; cases h
    | true =>
      rw [hq, cond_true] at h
      cases h
      simp only
      rw [hrs, hcs]
      simp only [Bool.and_eq_true] at hq
      obtain ⟨hnd, ⟨hpins, hall⟩, hrf, hkey, htk⟩ := hq
      have hcl : cs.length = L.length ∧ ∀ (j : Nat) (id : Nat), L[j]? = some id → cs[j]? = some (id, cmpOk H rs p j id) := by
        have := cmpsOf_spec H rs p L 0
        rw [hcs] at this
        simpa using this
      have hcu : ∀ {i j : Nat} {x y : Nat × Bool}, cs[i]? = some x → cs[j]? = some y → x.1 = y.1 → i = j := by
        intro i j x y h1 h2 h3
        have hi : i < L.length := by rw [← hcl.1]; exact get_lt h1
        have hj : j < L.length := by rw [← hcl.1]; exact get_lt h2
        have g1 := hcl.2 i _ (List.getElem?_eq_getElem hi)
        have g2 := hcl.2 j _ (List.getElem?_eq_getElem hj)
        rw [h1] at g1
        rw [h2] at g2
        cases g1; cases g2
        simp only at h3
        exact noDup_spec hnd (n := L[i]) (List.getElem?_eq_getElem hi) (by rw [h3]; exact List.getElem?_eq_getElem hj)
      have hcmp : ∀ (j : Nat) (id : Nat), L[j]? = some id → cmpAt id cs = cmpOk H rs p j id := fun j id h => cmpAt_spec cs hcu (hcl.2 j id h)
      have hrefs : ∀ r ∈ rs, r.1 ∈ L := by
        intro r hr
        unfold refsOk at hrf
        exact (memN_iff _ _).1 (list_all hrf r hr)
      have htoks : ∀ t ∈ toksL vs ++ blocksToks H L, cmpAt t cs = false := by
        intro t ht
        unfold toksOk at htk
        have := list_all htk t ht
        simpa using this
      have hTk : Toks (nmOf L cs) (toksL vs ++ blocksToks H L) := by
        intro t ht n
        simp only [nmOf, htoks t ht, cond_false]
      have hT : Turns (nmOf L cs) ρ (turned ρ H L cs) rs := by
        intro r hr l hl
        obtain ⟨j, h1, h2⟩ := idxOf_spec r.1 L 0 (hrefs r hr)
        simp only [nmOf, turned]
        rw [h1, Nat.zero_add, h2]
        simp only
        cases hc : cmpAt r.1 cs with
        | false => rw [cond_false]; exact hl
        | true =>
          rw [cond_true]
          simp only [cond_true, if_true]
          rw [hcmp j r.1 h2] at hc
          unfold cmpOk at hc
          simp only [Bool.and_eq_true] at hc
          have := list_all hc.2.2 r hr
          rw [show Nat.beq r.1 r.1 = true from Nat.beq_refl _, cond_true] at this
          rw [← Nat.eq_of_beq_eq_true this]
          exact hl
      have hbs : ∀ (cs2 : List (Nat × Bool)) (ix : Nat), (renBs H (nmOf L cs) cs2)[ix]? = (cs2[ix]?).map fun c => renB (nmOf L cs) c.2 (H.get c.1) := by
        intro cs2
        induction cs2 with
        | nil => intro ix; simp [renBs]
        | cons c cs2 ih => intro ix; cases ix with
          | zero => simp [renBs]
          | succ ix => simp [renBs, ih]
      have hbl : (renBs H (nmOf L cs) cs).length = L.length := by
        rw [← hcl.1]
        have : ∀ cs2 : List (Nat × Bool), (renBs H (nmOf L cs) cs2).length = cs2.length := by
          intro cs2
          induction cs2 with
          | nil => rfl
          | cons c cs2 ih => simp [renBs, ih]
        exact this cs
      obtain ⟨hn, hlow, hget⟩ := heapOf_spec (renBs H (nmOf L cs) cs) AH0 (by rw [hbl]; simpa [AH0] using hkey) low_AH0
      have hn' : (heapOf (renBs H (nmOf L cs) cs) AH0).n = L.length := by rw [hn, hbl]; simp [AH0]
      have hget' : ∀ (ix id : Nat), L[ix]? = some id → (heapOf (renBs H (nmOf L cs) cs) AH0).get ix = renB (nmOf L cs) (cmpAt id cs) (H.get id) := by
        intro ix id hi
        rw [hget ix, if_neg (by simp [AH0])]
        rw [show ix - AH0.n = ix by simp [AH0], hbs, hcl.2 ix id hi, hcmp ix id hi]
        rfl
      have hgetN : ∀ (ix : Nat), L.length ≤ ix → (heapOf (renBs H (nmOf L cs) cs) AH0).get ix = none := by
        intro ix hi
        cases hx : (heapOf (renBs H (nmOf L cs) cs) AH0).get ix with
        | none => rfl
        | some b => have := hlow ix b hx; omega
      have hρ : ∀ ix ver l, turned ρ H L cs ix ver = some l → ∃ id, L[ix]? = some id ∧ ((cmpAt id cs = true ∧ ver = 0 ∧ ρ id (topOf (H.get id)) = some l) ∨ (cmpAt id cs = false ∧ ρ id ver = some l)) := by
        intro ix ver l hl
        simp only [turned] at hl
        cases hx : L[ix]? with
        | none => rw [hx] at hl; cases hl
        | some id =>
          rw [hx] at hl
          simp only at hl
          refine ⟨id, rfl, ?_⟩
          cases hc : cmpAt id cs with
          | false => rw [hc, cond_false] at hl; exact .inr ⟨rfl, hl⟩
          | true =>
            rw [hc, cond_true] at hl
            split at hl
            · rename_i h0; exact .inl ⟨rfl, h0, hl⟩
            · cases hl
      have hcellid : ∀ b i x, ρ.cell b i = some x → (turned ρ H L cs).cell b i = some x := fun b i x h => h
      have hmemL : ∀ {ix id : Nat}, L[ix]? = some id → id ∈ L := fun h => List.mem_of_getElem? h
      have hTb : ∀ id, id ∈ L → Turns (nmOf L cs) ρ (turned ρ H L cs) (refsB (H.get id)) := fun id hi => hT.sub fun r hr => by
        rw [← hrs]; exact List.mem_append.2 (.inr (blocksRefs_mem hi r hr))
      have hKb : ∀ id, id ∈ L → Toks (nmOf L cs) (toksB (H.get id)) := fun id hi => hTk.sub fun r hr => List.mem_append.2 (.inr (blocksToks_mem hi r hr))
      have hopen : ∀ (ix id : Nat), L[ix]? = some id → cmpAt id cs = true → ∃ b, H.get id = some (.cells b) ∧ b.lens ≠ [] := by
        intro ix id hi hc
        rw [hcmp ix id hi] at hc
        unfold cmpOk at hc
        simp only [Bool.and_eq_true] at hc
        have := hc.2.1
        unfold isOpen at this
        split at this
        · rename_i b hb
          split at this
          · cases this
          · rename_i hne; exact ⟨b, hb, hne⟩
        · cases this
      have hpp : ∀ (L : List Nat) (i : Nat), pins p L i = true → p ≤ i + L.length ∧ ∀ j, i + j < p → L[j]? = some (i + j) := by
        intro L
        induction L with
        | nil => intro i h; simp only [pins, Nat.ble_eq] at h; exact ⟨by simpa using h, fun j hj => by omega⟩
        | cons a L ih =>
          intro i h
          simp only [pins] at h
          cases hb : Nat.blt i p with
          | false =>
            have : ¬ i < p := fun h => by rw [show Nat.blt i p = true from Nat.ble_eq_true_of_le h] at hb; cases hb
            exact ⟨by omega, fun j hj => by omega⟩
          | true =>
            rw [hb, cond_true] at h
            simp only [Bool.and_eq_true, Nat.beq_eq] at h
            obtain ⟨h1, h2⟩ := ih (i + 1) h.2
            refine ⟨by simp only [List.length_cons]; omega, fun j hj => ?_⟩
            cases j with
            | zero => simp [h.1]
            | succ j => simp only [List.getElem?_cons_succ]; rw [h2 j (by omega)]; congr 1; omega
      obtain ⟨hple, hpin⟩ := hpp L 0 hpins
      refine ⟨⟨?_, ?_, hlow, ?_, ?_, hR.base, ⟨hR.fz.cell, ?_⟩⟩, ?_, hn', ?_, hnd, hall, ?_, ?_, fun ix hix => (by have := hpin ix (by omega); simpa using this), by omega, hcmp, ?_⟩
      · intro ix ver l b hl hb
        obtain ⟨id, hi, hcase⟩ := hρ ix ver l hl
        rw [hget' ix id hi] at hb
        have hm := hmemL hi
        rcases hcase with ⟨hc, rfl, hl0⟩ | ⟨hc, hl0⟩
        · obtain ⟨c, hcb, hne⟩ := hopen ix id hi hc
          rw [hc, hcb] at hb
          simp only [renB, cond_true, Option.some.injEq] at hb
          subst hb
          rw [hcb] at hl0
          simp only [topOf] at hl0
          have hB := hR.blk _ _ _ _ hl0 hcb
          have hwf := hR.wf _ _ hcb
          have hC := hB.2 hwf.wver
          obtain ⟨n, s1, s2, s3, s4⟩ := hC.shape
          have hTb' := hTb id hm
          have hKb' := hKb id hm
          rw [hcb] at hTb' hKb'
          refine ⟨Nat.zero_le _, fun _ => ⟨⟨n, s1, fun h => (by cases h), fun _ => ?_, s4⟩, ?_, hC.esz, hC.hi⟩⟩
          · refine ⟨(s3 hne).1, ?_⟩
            simp only [CBlk.lenAt, CBlk.top]
            simpa [CBlk.lenAt, CBlk.top] using (s3 hne).2
          · intro i v hi2 hv
            obtain ⟨u, hu, hrel⟩ := cells_turn hwf hcellid hTb' hKb' i v hv
            have hi3 : i < c.lenAt c.top := by simpa [CBlk.lenAt, CBlk.top] using hi2
            obtain ⟨v', g1, g2⟩ := hC.vals i u hi3 hu
            exact ⟨v', g1, hrel v' g2⟩
        · rw [hc] at hb
          cases hbk : H.get id with
          | none => rw [hbk] at hb; cases hb
          | some bk =>
            rw [hbk] at hb
            have hB := hR.blk _ _ _ _ hl0 hbk
            have hTb' := hTb id hm
            have hKb' := hKb id hm
            rw [hbk] at hTb' hKb'
            cases bk with
            | cells c =>
              simp only [renB, cond_false, Option.some.injEq] at hb
              subst hb
              refine ⟨hB.1, fun hv => ?_⟩
              have hC := hB.2 hv
              have hwf := hR.wf _ _ hbk
              obtain ⟨n, s1, s2, s3, s4⟩ := hC.shape
              refine ⟨⟨n, s1, fun h => by rw [turn_len]; exact s2 h, fun h => ?_, s4⟩, ?_, hC.esz, hC.hi⟩
              · have e1 := lenAt_top (b := c) (wv := c.wver) (pf := c.pf) (turn_len (nmOf L cs) c) ver
                exact ⟨(s3 h).1, by rw [e1]; exact (s3 h).2⟩
              · intro i v hi2 hv2
                obtain ⟨u, hu, hrel⟩ := cells_turn hwf hcellid hTb' hKb' i v hv2
                have e1 := lenAt_top (b := c) (wv := c.wver) (pf := c.pf) (turn_len (nmOf L cs) c) ver
                have hi3 : i < c.lenAt ver := by rw [e1] at hi2; exact hi2
                obtain ⟨v', g1, g2⟩ := hC.vals i u hi3 hu
                exact ⟨v', g1, hrel v' g2⟩
            | map es =>
              simp only [renB, Option.some.injEq] at hb
              subst hb
              obtain ⟨h0, ms, clock, q1, q2, q3⟩ := hB
              refine ⟨h0, ms, clock, q1, by rw [renM_length]; exact q2, ?_⟩
              intro i e mm he hmm
              rw [renM_get, Option.map_eq_some_iff] at he
              obtain ⟨e0, he0, rfl⟩ := he
              obtain ⟨k1, k2, k3⟩ := q3 i e0 mm he0 hmm
              obtain ⟨z1, z2⟩ := refsM_mem (List.mem_of_getElem? he0)
              exact ⟨k1, k2, ren_rel k3 hcellid (hTb'.sub z1) (hKb'.sub z2)⟩
            | tok m e z =>
              simp only [renB, Option.some.injEq] at hb
              subst hb
              exact hB
      · intro ix c hc
        by_cases hi : ix < L.length
        · have hi' := List.getElem?_eq_getElem hi
          rw [hget' ix _ hi'] at hc
          cases hbk : H.get L[ix] with
          | none => rw [hbk] at hc; cases hc
          | some bk =>
            rw [hbk] at hc
            cases bk with
            | cells b =>
              have hwf := hR.wf _ _ hbk
              simp only [renB] at hc
              cases hcm : cmpAt L[ix] cs with
              | true =>
                rw [hcm, cond_true] at hc
                cases hc
                refine ⟨?_, Nat.zero_le _, fun hp => turn_noRefs hwf hp⟩
                intro n hn
                simp only [List.mem_singleton] at hn
                subst hn
                rw [turn_len]
                exact hwf.lenAt_le _
              | false =>
                rw [hcm, cond_false] at hc
                cases hc
                exact ⟨fun n hn => by rw [turn_len]; exact hwf.lens n hn, hwf.wver, fun hp => turn_noRefs hwf hp⟩
            | map es => cases hc
            | tok m e z => cases hc
        · rw [hgetN ix (by omega)] at hc; cases hc
      · intro ix ver l ix' ver' l' h1 h2 e
        obtain ⟨id, hi, hc⟩ := hρ ix ver l h1
        obtain ⟨id', hi', hc'⟩ := hρ ix' ver' l' h2
        have g1 : ∃ v0, ρ id v0 = some l := by rcases hc with ⟨_, _, h⟩ | ⟨_, h⟩ <;> exact ⟨_, h⟩
        have g2 : ∃ v0, ρ id' v0 = some l' := by rcases hc' with ⟨_, _, h⟩ | ⟨_, h⟩ <;> exact ⟨_, h⟩
        obtain ⟨v0, g1⟩ := g1
        obtain ⟨v1, g2⟩ := g2
        have := hR.sep _ _ _ _ _ _ g1 g2 e
        subst this
        exact noDup_spec hnd hi hi'
      · intro ix ver l h1
        obtain ⟨id, hi, hc⟩ := hρ ix ver l h1
        rcases hc with ⟨_, _, h⟩ | ⟨_, h⟩ <;> exact hR.bnd _ _ _ h
      · intro ix ver l i v b hl hv hb
        obtain ⟨id, hi, hc⟩ := hρ ix ver l hl
        rw [hget' ix id hi] at hb
        cases hbk : H.get id with
        | none => rw [hbk] at hb; cases hb
        | some bk =>
          rw [hbk] at hb
          have g : ∃ v0, ρ id v0 = some l := by rcases hc with ⟨_, _, h⟩ | ⟨_, h⟩ <;> exact ⟨_, h⟩
          obtain ⟨v0, g⟩ := g
          have hs := hR.fz.sep _ _ _ _ _ _ g hv hbk
          cases bk with
          | cells c =>
            simp only [renB] at hb
            cases hcm : cmpAt id cs with
            | true => rw [hcm, cond_true] at hb; cases hb; exact hs
            | false => rw [hcm, cond_false] at hb; cases hb; exact hs
          | map es => exact hs.elim
          | tok m e z => simp only [renB] at hb; cases hb; exact hs
      · intro ix ver hix
        rw [hn'] at hix
        simp only [turned]
        rw [List.getElem?_eq_none hix]
      · intro v v' hv hrel
        exact ren_rel hrel hcellid (hT.sub fun r hr => by rw [← hrs]; exact List.mem_append.2 (.inl (refsL_mem hv r hr))) (hTk.sub fun r hr => List.mem_append.2 (.inl (toksL_mem hv r hr)))
      · intro ix hs
        obtain ⟨b, hb⟩ := Option.isSome_iff_exists.1 hs
        have := hlow ix b hb
        omega
      · intro ix hi
        have hi' := List.getElem?_eq_getElem hi
        rw [hget' ix _ hi']
        obtain ⟨b, hb⟩ := hasAll_spec hall L[ix] (hmemL hi')
        rw [hb]
        cases b with
        | cells b => simp only [renB]; cases cmpAt L[ix] cs <;> rfl
        | map es => rfl
        | tok m e z => rfl
      · intro ix id hi hc
        refine ⟨?_, hopen ix id hi hc⟩
        rw [hcmp ix id hi] at hc
        unfold cmpOk at hc
        simp only [Bool.and_eq_true] at hc
        exact Nat.le_of_ble_eq_true hc.1
  · cases h

end
end Go.Den
