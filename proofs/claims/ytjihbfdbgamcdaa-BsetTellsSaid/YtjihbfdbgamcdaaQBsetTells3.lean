/-
  PARTS OF A PROOF, joined by a program (3 of 7): a proved reckoner of the model, and what the functions come to.
-/
import Derived.Test.YtjihbfdbgamcdaaQBsetTells2
import Derived.Orders
set_option linter.unusedVariables false
set_option linter.unusedSimpArgs false
namespace Go.Den
noncomputable section
variable {P : Program}
theorem wit (H : AH) (b : Option ABlk) : (addO H b).n = H.n + 1 := by
 cases b with
 | none => cases H; exact congrArg AH.n (wzc _ _)
 | some b => rw [addO, wpg]
theorem wwx {H : AH} (hk : wmb H.n = true) (hl : Low H) (b : Option ABlk) (id : Nat) : (addO H b).get id = if id = H.n then b else H.get id := by
 cases b with
 | some b => exact AH.get_push hk b id
 | none =>
  have e : (addO H none).get id = H.get id := by
   cases H with
   | mk n t => unfold addO; simp only [AH.get]; rw [wzc]
  rw [e]
  split
  ·rename_i h
   cases hq : H.get id with
   | none => rfl
   | some c => have := hl id c hq; omega
  ·rfl
theorem wthb {H : AH} (hk : wmb H.n = true) (hl : Low H) (b : Option ABlk) : Low (addO H b) := by
 intro id c hc
 rw [wwx hk hl] at hc
 rw [wit]
 split at hc
 ·omega
 ·have := hl id c hc; omega
theorem wlkb (H : AH) : wdg [] H = H := rfl
theorem wjt (b : Option ABlk) (l : List (Option ABlk)) (H : AH) : wdg (b :: l) H = wdg l (addO H b) := rfl
theorem wkt : ∀ (l : List (Option ABlk)) (H : AH), wmb (H.n + l.length) = true → Low H →
  (wdg l H).n = H.n + l.length ∧ Low (wdg l H) ∧ ∀ id, (wdg l H).get id = if id < H.n then H.get id else (l[id - H.n]?).join := by
 intro l
 induction l with
 | nil =>
  intro H hk hl
  refine ⟨rfl, hl, fun id => ?_⟩
  rw [wlkb]
  split
  ·rfl
  ·rename_i h
   cases hq : H.get id with
   | none => simp
   | some c => exact absurd (hl id c hq) h
 | cons b l ih =>
  intro H hk hl
  rw [List.length_cons] at hk
  have hk' : wmb H.n = true := wbh hk (by omega)
  obtain ⟨h1, h2, h3⟩ := ih (addO H b) (by rw [wit]; rw [show H.n + 1 + l.length = H.n + (l.length + 1) by omega]; exact hk) (wthb hk' hl b)
  rw [wjt]
  refine ⟨by rw [h1, wit, List.length_cons]; omega, h2, fun id => ?_⟩
  rw [h3, wit, wwx hk' hl]
  by_cases h4 : id < H.n
  ·rw [if_pos (by omega), if_neg (by omega), if_pos h4]
  ·rw [if_neg h4]
   by_cases h5 : id = H.n
   ·subst h5
    rw [if_pos (by omega), if_pos rfl, Nat.sub_self]
    simp
   ·rw [if_neg (by omega), show id - H.n = (id - (H.n + 1)) + 1 by omega]
    simp
theorem wlqb : Low AH0 := fun id b h => by cases h
theorem wuhb (n : Nat) : ∀ l : List Nat, memN n l = true ↔ n ∈ l := by
 intro l
 induction l with
 | nil => simp [memN]
 | cons a l ih =>
  simp only [memN]
  cases hq : Nat.beq a n with
  | true => have := Nat.eq_of_beq_eq_true hq; subst this; simp
  | false =>
   rw [cond_false, ih]
   have : ¬ n = a := fun e => by subst e; rw [Nat.beq_refl] at hq; cases hq
   simp [this]
theorem wuv (n : Nat) : ∀ (l : List Nat) (k : Nat), n ∈ l → ∃ j, idxOf n l k = k + j ∧ l[j]? = some n := by
 intro l
 induction l with
 | nil => intro k h; simp at h
 | cons a l ih =>
  intro k h
  simp only [idxOf]
  cases hq : Nat.beq a n with
  | true => have := Nat.eq_of_beq_eq_true hq; subst this; exact ⟨0, rfl, rfl⟩
  | false =>
   have hne : ¬ n = a := fun e => by subst e; rw [Nat.beq_refl] at hq; cases hq
   simp only [List.mem_cons, hne, false_or] at h
   obtain ⟨j, h1, h2⟩ := ih (k + 1) h
   exact ⟨j + 1, by rw [cond_false, h1]; omega, by simpa using h2⟩
theorem wvm : ∀ {l : List Nat}, wiq l = true → ∀ {i j : Nat} {n : Nat}, l[i]? = some n → l[j]? = some n → i = j := by
 intro l
 induction l with
 | nil => intro _ i j n h; simp at h
 | cons a l ih =>
  intro h i j n h1 h2
  simp only [wiq, Bool.and_eq_true, Bool.not_eq_true'] at h
  have ha : a ∉ l := fun hm => by rw [(wuhb a l).2 hm] at h; cases h.1
  cases i with
  | zero =>
   cases j with
   | zero => rfl
   | succ j =>
    simp at h1 h2
    subst h1
    exact absurd (List.mem_of_getElem? h2) ha
  | succ i =>
   cases j with
   | zero =>
    simp at h1 h2
    subst h2
    exact absurd (List.mem_of_getElem? h1) ha
   | succ j => exact congrArg (· + 1) (ih h.2 (n := n) (by simpa using h1) (by simpa using h2))
theorem wnk (H : AH) (rs : List (Nat × Nat)) (p : Nat) : ∀ (L : List Nat) (ix : Nat), (wrd H rs p L ix).length = L.length ∧ ∀ (j : Nat) (id : Nat), L[j]? = some id → (wrd H rs p L ix)[j]? = some (id, wuu H rs p (ix + j) id) := by
 intro L
 induction L with
 | nil => intro ix; exact ⟨rfl, fun j id h => by simp at h⟩
 | cons a L ih =>
  intro ix
  obtain ⟨h1, h2⟩ := ih (ix + 1)
  refine ⟨by simp [wrd, h1], fun j id h => ?_⟩
  cases j with
  | zero => simp at h; subst h; simp [wrd]
  | succ j =>
   simp only [wrd, List.getElem?_cons_succ]
   rw [h2 j id (by simpa using h), show ix + 1 + j = ix + (j + 1) by omega]
theorem wmkb : ∀ (cs : List (Nat × Bool)) {j : Nat} {id : Nat} {b : Bool}, (∀ {i j : Nat} {x y : Nat × Bool}, cs[i]? = some x → cs[j]? = some y → x.1 = y.1 → i = j) → cs[j]? = some (id, b) → wde id cs = b := by
 intro cs
 induction cs with
 | nil => intro j id b _ h; simp at h
 | cons a cs ih =>
  intro j id b hu h
  simp only [wde]
  cases j with
  | zero =>
   simp at h
   subst h
   show (bif Nat.beq id id then b else _) = b
   have : Nat.beq id id = true := Nat.beq_refl id
   rw [this, cond_true]
  | succ j =>
   have hne : Nat.beq a.1 id = false := by
    cases hq : Nat.beq a.1 id with
    | false => rfl
    | true =>
     have := hu (i := 0) (j := j + 1) (x := a) (y := (id, b)) rfl h (Nat.eq_of_beq_eq_true hq)
     omega
   rw [hne, cond_false]
   exact ih (fun {i j x y} h1 h2 h3 => by
    have := hu (i := i + 1) (j := j + 1) (by simpa using h1) (by simpa using h2) h3
    omega) (by simpa using h)
def Turns (m : Nm) (ρ ρ' : Ren) (rs : List (Nat × Nat)) : Prop :=
 ∀ r ∈ rs, ∀ l, ρ r.1 r.2 = some l → ρ' (m r.1 r.2).1 (m r.1 r.2).2 = some l
theorem Turns.sub {m : Nm} {ρ ρ' : Ren} {rs rs' : List (Nat × Nat)} (h : Turns m ρ ρ' rs) (hs : ∀ r ∈ rs', r ∈ rs) : Turns m ρ ρ' rs' := fun r hr => h r (hs r hr)
theorem whh (m : Nm) : ∀ l : List Value, (wpc m l).length = l.length := by
 intro l
 induction l with
 | nil => rfl
 | cons a l ih => simp [wpc, ih]
theorem wcm (m : Nm) : ∀ (l : List Value) (i : Nat), (wpc m l)[i]? = (l[i]?).map (renV m) := by
 intro l
 induction l with
 | nil => intro i; simp [wpc]
 | cons a l ih => intro i; cases i with
  | zero => simp [wpc]
  | succ i => simp [wpc, ih]
theorem wlt : ∀ {l : List Value} {v : Value}, v ∈ l → ∀ r ∈ refs v, r ∈ wxc l := by
 intro l
 induction l with
 | nil => intro v h; simp at h
 | cons a l ih =>
  intro v h r hr
  simp only [wxc, List.mem_append]
  simp only [List.mem_cons] at h
  rcases h with rfl | h
  ·exact .inl hr
  ·exact .inr (ih h r hr)
theorem wbp {a : Array Value} {i : Nat} {v : Value} (h : a[i]? = some v) : ∀ r ∈ refs v, r ∈ wfeb a := by
 cases a with
 | mk l => exact wlt (List.mem_of_getElem? (by simpa using h))
theorem wwm (m : Nm) (a : Array Value) : (wnr m a).size = a.size := by
 cases a with
 | mk l => simp [wnr, whh]
theorem wcp (m : Nm) (a : Array Value) (i : Nat) : (wnr m a)[i]? = (a[i]?).map (renV m) := by
 cases a with
 | mk l => simp [wnr, wcm]
theorem wvv {m : Nm} {fn : Fn} (hf : woe fn = true) (f c : Array Value) : renV m (.func fn f c) = .func fn (wnr m f) (wnr m c) := by
 cases fn <;> first | rfl | cases hf
theorem wneb {fn : Fn} (hf : woe fn = true) (f c : Array Value) : refs (.func fn f c) = wfeb f ++ wfeb c := by
 cases fn <;> first | rfl | cases hf
mutual
theorem wxx {m : Nm} : ∀ (v : Value), flat v = true → renV m v = v
 | .bool _, _ => rfl
 | .int _ _, _ => rfl
 | .float _ _, _ => rfl
 | .complex _ _ _, _ => rfl
 | .string _, _ => rfl
 | .pointer none, _ => rfl
 | .pointer (some _), h => by simp [flat] at h
 | .slice none _ _, _ => rfl
 | .slice (some _) _ _, h => by simp [flat] at h
 | .map none, _ => rfl
 | .map (some _), h => by simp [flat] at h
 | .chan _, _ => rfl
 | .nilFunc, _ => rfl
 | .nilIface, _ => rfl
 | .func fn f c, h => by
  simp only [flat, Bool.and_eq_true] at h
  rw [wvv h.1, wdp f h.2.1, wdp c h.2.2]
 | .iface t v, h => by simp only [flat] at h; simp only [renV]; rw [wxx v h]
 | .agg cs, h => by simp only [flat] at h; simp only [renV]; rw [wdp cs h]
 | .tuple vs, h => by simp only [flat] at h; simp only [renV]; rw [wdp vs h]
theorem wdp {m : Nm} : ∀ (a : Array Value), wtw a = true → wnr m a = a
 | ⟨l⟩, h => by simp only [wtw] at h; simp only [wnr]; rw [wrab l h]
theorem wrab {m : Nm} : ∀ (l : List Value), wol l = true → wpc m l = l
 | [], _ => rfl
 | v :: r, h => by
  simp only [wol, Bool.and_eq_true] at h
  simp only [wpc]
  rw [wxx v h.1, wrab r h.2]
end
theorem wyx (m : Nm) (a : Addr) : (renA m a).block = (m a.block (aver a)).1 ∧ aver (renA m a) = (m a.block (aver a)).2 := by
 refine ⟨rfl, ?_⟩
 show (whq a.spot (m a.block (aver a)).2).getD 0 = _
 generalize (m a.block (aver a)).2 = s
 unfold whq
 split <;> rfl
theorem wmt : ∀ {l : List Value} {v : Value}, v ∈ l → ∀ r ∈ toks v, r ∈ wen l := by
 intro l
 induction l with
 | nil => intro v h; simp at h
 | cons a l ih =>
  intro v h r hr
  simp only [wen, List.mem_append]
  simp only [List.mem_cons] at h
  rcases h with rfl | h
  ·exact .inl hr
  ·exact .inr (ih h r hr)
theorem wep {a : Array Value} {i : Nat} {v : Value} (h : a[i]? = some v) : ∀ r ∈ toks v, r ∈ wheb a := by
 cases a with
 | mk l => exact wmt (List.mem_of_getElem? (by simpa using h))
theorem woeb {fn : Fn} (hf : woe fn = true) (f c : Array Value) : toks (.func fn f c) = wheb f ++ wheb c := by
 cases fn <;> first | rfl | cases hf
def Toks (m : Nm) (ts : List Nat) : Prop := ∀ t ∈ ts, ∀ n, (m t n).2 = n
theorem Toks.sub {m : Nm} {ts ts' : List Nat} (h : Toks m ts) (hs : ∀ r ∈ ts', r ∈ ts) : Toks m ts' := fun r hr => h r (hs r hr)
theorem wzx {m : Nm} {ρ ρ' : Ren} {v v' : Value} (h : VR ρ v v') : (∀ b i x, ρ.cell b i = some x → ρ'.cell b i = some x) → Turns m ρ ρ' (refs v) → Toks m (toks v) → VR ρ' (renV m v) v' := by
 induction h with
 | flat h => intro _ _ _; rw [wxx _ h]; exact .flat h
 | @ptr ρ a l h =>
  intro _ ht _
  have h1 := ht (a.block, aver a) (by simp [refs]) l h
  obtain ⟨e1, e2⟩ := wyx m a
  exact VR.ptr (a := renA m a) (by rw [e1, e2]; exact h1)
 | @sliceOpen ρ a l len hl h =>
  intro _ ht _
  have hb : (Nat.beq len 0 && Nat.ble 0 1) = false := by
   cases len with
   | zero => omega
   | succ n => rfl
  have h1 := ht (a.block, aver a) (by simp [refs, hb]) l h
  obtain ⟨e1, e2⟩ := wyx m a
  simp only [renV, hb, cond_false]
  exact VR.sliceOpen (a := renA m a) hl (by rw [e1, e2]; exact h1)
 | sliceEmpty => intro _ _ _; exact .sliceEmpty
 | @sliceExact ρ a l len c h =>
  intro _ ht _
  cases hb : (Nat.beq len 0 && Nat.ble (c + 1) 1) with
  | true =>
   simp only [renV, hb, cond_true]
   simp only [Bool.and_eq_true, Nat.beq_eq, Nat.ble_eq] at hb
   obtain ⟨rfl, hc⟩ := hb
   have : c = 0 := by omega
   subst this
   exact .sliceNo
  | false =>
   have h1 := ht (a.block, aver a) (by simp [refs, hb]) l h
   obtain ⟨e1, e2⟩ := wyx m a
   simp only [renV, hb, cond_false]
   exact VR.sliceExact (a := renA m a) (by rw [e1, e2]; exact h1)
 | @map ρ r l h =>
  intro _ ht hk
  have h1 := ht (r, 0) (by simp [refs]) l h
  have h2 : (m r 0).2 = 0 := hk r (by simp [toks]) 0
  rw [h2] at h1
  exact .map h1
 | @func ρ fn f c f' c' hn hf hc h1 h2 ih1 ih2 =>
  intro hcell ht hk
  rw [wvv hn]
  rw [wneb hn] at ht
  rw [woeb hn] at hk
  refine .func hn (by rw [wwm]; exact hf) (by rw [wwm]; exact hc) ?_ ?_
  ·intro i v v' a b
   rw [wcp, Option.map_eq_some_iff] at a
   obtain ⟨u, hu, rfl⟩ := a
   exact ih1 i u v' hu b hcell (ht.sub fun r hr => List.mem_append.2 (.inl (wbp hu r hr))) (hk.sub fun r hr => List.mem_append.2 (.inl (wep hu r hr)))
  ·intro i v v' a b
   rw [wcp, Option.map_eq_some_iff] at a
   obtain ⟨u, hu, rfl⟩ := a
   exact ih2 i u v' hu b hcell (ht.sub fun r hr => List.mem_append.2 (.inr (wbp hu r hr))) (hk.sub fun r hr => List.mem_append.2 (.inr (wep hu r hr)))
 | iface h ih => intro hcell ht hk; exact .iface (ih hcell ht hk)
 | list hn f hc h ih => intro hcell _ _; exact .list hn f (fun i hi => hcell _ _ _ (hc i hi)) fun i v e => (h i v e).mono (Sub.noloc_of hcell)
 | @own ρ t n cs l hl hn hs f hc h ih =>
  intro hcell ht hk
  have h1 := ht (t, n) (by simp [refs, wgeb]) l hl
  have h2 : (m t n).2 = n := hk t (by simp [toks, wieb]) n
  rw [h2] at h1
  exact .own h1 hn hs f (fun i hi => hcell _ _ _ (hc i hi)) fun i v e => (h i v e).mono (Sub.noloc_of hcell)
 | @optr ρ t n cs l hl hs f hc h ih =>
  intro hcell ht hk
  have h1 := ht (t, n) (by simp [refs, wgeb]) l hl
  have h2 : (m t n).2 = n := hk t (by simp [toks, wieb]) n
  rw [h2] at h1
  exact .optr h1 hs f (fun i hi => hcell _ _ _ (hc i hi)) fun i v e => (h i v e).mono (Sub.noloc_of hcell)
 | listNo => intro _ _ _; exact .listNo
 | fptr f hc h ih => intro hcell _ _; exact .fptr f (fun i hi => hcell _ _ _ (hc i hi)) fun i v e => (h i v e).mono (Sub.noloc_of hcell)
 | junk => intro _ _ _; exact .junk
 | sliceNo => intro _ _ _; exact .sliceNo
 | @agg ρ cs cs' hs h ih =>
  intro hcell ht hk
  refine .agg (by rw [wwm]; exact hs) ?_
  intro i v v' a b
  rw [wcp, Option.map_eq_some_iff] at a
  obtain ⟨u, hu, rfl⟩ := a
  exact ih i u v' hu b hcell (ht.sub fun r hr => wbp hu r hr) (hk.sub fun r hr => wep hu r hr)
 | @tuple ρ cs cs' hs h ih =>
  intro hcell ht hk
  refine .tuple (by rw [wwm]; exact hs) ?_
  intro i v v' a b
  rw [wcp, Option.map_eq_some_iff] at a
  obtain ⟨u, hu, rfl⟩ := a
  exact ih i u v' hu b hcell (ht.sub fun r hr => wbp hu r hr) (hk.sub fun r hr => wep hu r hr)
def Bd (ρ : Ren) (H : AH) : Prop := ∀ id ver, H.n ≤ id → ρ id ver = none
theorem Bd.free {ρ : Ren} {H : AH} (h : Bd ρ H) (n : Nat) : Free ρ H.n n := fun id ver h1 _ => h id ver h1
theorem wyu {H : AH} : ∀ {L : List Nat} {id : Nat}, id ∈ L → ∀ r ∈ wun (H.get id), r ∈ wgb H L := by
 intro L
 induction L with
 | nil => intro id h; simp at h
 | cons a L ih =>
  intro id h r hr
  simp only [wgb, List.mem_append]
  simp only [List.mem_cons] at h
  rcases h with rfl | h
  ·exact .inl hr
  ·exact .inr (ih h r hr)
theorem wzu {H : AH} : ∀ {L : List Nat} {id : Nat}, id ∈ L → ∀ r ∈ wvx (H.get id), r ∈ wmf H L := by
 intro L
 induction L with
 | nil => intro id h; simp at h
 | cons a L ih =>
  intro id h r hr
  simp only [wmf, List.mem_append]
  simp only [List.mem_cons] at h
  rcases h with rfl | h
  ·exact .inl hr
  ·exact .inr (ih h r hr)
theorem wte {H : AH} : ∀ {L : List Nat}, hasAll H L = true → ∀ id ∈ L, ∃ b, H.get id = some b := by
 intro L
 induction L with
 | nil => intro _ id h; simp at h
 | cons a L ih =>
  intro h id hi
  simp only [hasAll, Bool.and_eq_true] at h
  simp only [List.mem_cons] at hi
  rcases hi with rfl | hi
  ·exact Option.isSome_iff_exists.1 h.1
  ·exact ih h.2 id hi
def turned (ρ : Ren) (H : AH) (L : List Nat) (cs : List (Nat × Bool)) : Ren :=
 ⟨fun ix ver => match L[ix]? with
  | some id => bif wde id cs then (if ver = 0 then ρ id (wse (H.get id)) else none) else ρ id ver
  | none => none, ρ.cell⟩
theorem wnt (m : Nm) : ∀ es, (renM m es).length = es.length := by
 intro es
 induction es with
 | nil => rfl
 | cons e es ih => simp [renM, ih]
theorem wvhb (m : Nm) : ∀ (es : List (Value × Value)) (i : Nat), (renM m es)[i]? = (es[i]?).map fun e => (e.1, renV m e.2) := by
 intro es
 induction es with
 | nil => intro i; simp [renM]
 | cons e es ih => intro i; cases i with
  | zero => simp [renM]
  | succ i => simp [renM, ih]
theorem wsab : ∀ {es : List (Value × Value)} {e : Value × Value}, e ∈ es → (∀ r ∈ refs e.2, r ∈ wct es) ∧ (∀ r ∈ toks e.2, r ∈ wjeb es) := by
 intro es
 induction es with
 | nil => intro e h; simp at h
 | cons a es ih =>
  intro e h
  simp only [List.mem_cons] at h
  simp only [wct, wjeb, List.mem_append]
  rcases h with rfl | h
  ·exact ⟨fun r hr => .inl hr, fun r hr => .inl hr⟩
  ·exact ⟨fun r hr => .inr ((ih h).1 r hr), fun r hr => .inr ((ih h).2 r hr)⟩
theorem wjq {m : Nm} {ρ ρ' : Ren} {b : CBlk} (hwf : b.WF) (hcell : ∀ b i x, ρ.cell b i = some x → ρ'.cell b i = some x) (ht : Turns m ρ ρ' (wun (some (.cells b)))) (hk : Toks m (wvx (some (.cells b)))) :
  ∀ (i : Nat) (v : Value), (bif b.pf then b.cells else wpc m b.cells)[i]? = some v → ∃ u, b.cells[i]? = some u ∧ ∀ v', VR ρ u v' → VR ρ' v v' := by
 intro i v hv
 cases hp : b.pf with
 | true =>
  rw [hp, cond_true] at hv
  exact ⟨v, hv, fun v' h => h.reloc hcell ((wpd _).1 (hwf.pf hp) v (List.mem_of_getElem? hv))⟩
 | false =>
  rw [hp, cond_false, wcm, Option.map_eq_some_iff] at hv
  obtain ⟨u, hu, rfl⟩ := hv
  simp only [wun, hp, cond_false] at ht
  simp only [wvx, hp, cond_false] at hk
  exact ⟨u, hu, fun v' h => wzx h hcell (ht.sub (wlt (List.mem_of_getElem? hu))) (hk.sub (wmt (List.mem_of_getElem? hu)))⟩
theorem wvh (m : Nm) (b : CBlk) : (bif b.pf then b.cells else wpc m b.cells).length = b.cells.length := by
 cases b.pf with
 | true => rfl
 | false => exact whh m _
theorem wok {m : Nm} {b : CBlk} (hwf : b.WF) (hp : b.pf = true) : wcb (bif b.pf then b.cells else wpc m b.cells) = true := by
 rw [hp, cond_true]
 exact hwf.pf hp
theorem wvn {H : AH} {p : Nat} {vs : List Value} {N : Nrm} (h : wyd H p vs = some N) {ρ : Ren} {B : Nat} {w : World} (hR : Rel ρ B H w) :
  Rel (turned ρ H N.L (wrd H (wxc vs ++ wgb H N.L) p N.L 0)) B N.H w ∧ Bd (turned ρ H N.L (wrd H (wxc vs ++ wgb H N.L) p N.L 0)) N.H ∧ N.H.n = N.L.length ∧
  (∀ (v v' : Value), v ∈ vs → VR ρ v v' → VR (turned ρ H N.L (wrd H (wxc vs ++ wgb H N.L) p N.L 0)) (renV N.m v) v') ∧ wiq N.L = true ∧ hasAll H N.L = true ∧
  (∀ ix, (N.H.get ix).isSome = true → ix < N.L.length) ∧ (∀ ix, ix < N.L.length → (N.H.get ix).isSome = true) ∧ (∀ ix, ix < p → N.L[ix]? = some ix) ∧ p ≤ N.L.length ∧
  (∀ (ix id : Nat), N.L[ix]? = some id → wde id (wrd H (wxc vs ++ wgb H N.L) p N.L 0) = wuu H (wxc vs ++ wgb H N.L) p ix id) ∧
  (∀ (ix id : Nat), N.L[ix]? = some id → wde id (wrd H (wxc vs ++ wgb H N.L) p N.L 0) = true → p ≤ ix ∧ ∃ b, H.get id = some (.cells b) ∧ b.lens ≠ []) := by
 unfold wyd wkab at h
 split at h
 ·rename_i L _
  generalize hrs : wxc vs ++ wgb H L = rs at h
  generalize hcs : wrd H rs p L 0 = cs at h
  cases hq : (wiq L && (pins p L 0 && hasAll H L && (wyo L rs && (wmb L.length && wdt cs (wen vs ++ wmf H L))))) with
  | false => rw [hq, cond_false] at h; cases h
  | true =>
   rw [hq, cond_true] at h
   cases h
   simp only
   rw [hrs, hcs]
   simp only [Bool.and_eq_true] at hq
   obtain ⟨hnd, ⟨hpins, hall⟩, hrf, hkey, htk⟩ := hq
   have hcl : cs.length = L.length ∧ ∀ (j : Nat) (id : Nat), L[j]? = some id → cs[j]? = some (id, wuu H rs p j id) := by
    have := wnk H rs p L 0
    rw [hcs] at this
    simpa using this
   have hcu : ∀ {i j : Nat} {x y : Nat × Bool}, cs[i]? = some x → cs[j]? = some y → x.1 = y.1 → i = j := by
    intro i j x y h1 h2 h3
    have hi : i < L.length := by rw [← hcl.1]; exact wgh h1
    have hj : j < L.length := by rw [← hcl.1]; exact wgh h2
    have g1 := hcl.2 i _ (List.getElem?_eq_getElem hi)
    have g2 := hcl.2 j _ (List.getElem?_eq_getElem hj)
    rw [h1] at g1
    rw [h2] at g2
    cases g1; cases g2
    simp only at h3
    exact wvm hnd (n := L[i]) (List.getElem?_eq_getElem hi) (by rw [h3]; exact List.getElem?_eq_getElem hj)
   have hcmp : ∀ (j : Nat) (id : Nat), L[j]? = some id → wde id cs = wuu H rs p j id := fun j id h => wmkb cs hcu (hcl.2 j id h)
   have hrefs : ∀ r ∈ rs, r.1 ∈ L := by
    intro r hr
    unfold wyo at hrf
    exact (wuhb _ _).1 (wcf hrf r hr)
   have htoks : ∀ t ∈ wen vs ++ wmf H L, wde t cs = false := by
    intro t ht
    unfold wdt at htk
    have := wcf htk t ht
    simpa using this
   have hTk : Toks (nmOf L cs) (wen vs ++ wmf H L) := by
    intro t ht n
    simp only [nmOf, htoks t ht, cond_false]
   have hT : Turns (nmOf L cs) ρ (turned ρ H L cs) rs := by
    intro r hr l hl
    obtain ⟨j, h1, h2⟩ := wuv r.1 L 0 (hrefs r hr)
    simp only [nmOf, turned]
    rw [h1, Nat.zero_add, h2]
    simp only
    cases hc : wde r.1 cs with
    | false => rw [cond_false]; exact hl
    | true =>
     rw [cond_true]
     simp only [cond_true, if_true]
     rw [hcmp j r.1 h2] at hc
     unfold wuu at hc
     simp only [Bool.and_eq_true] at hc
     have := wcf hc.2.2 r hr
     rw [show Nat.beq r.1 r.1 = true from Nat.beq_refl _, cond_true] at this
     rw [← Nat.eq_of_beq_eq_true this]
     exact hl
   have hbs : ∀ (cs2 : List (Nat × Bool)) (ix : Nat), (wil H (nmOf L cs) cs2)[ix]? = (cs2[ix]?).map fun c => renB (nmOf L cs) c.2 (H.get c.1) := by
    intro cs2
    induction cs2 with
    | nil => intro ix; simp [wil]
    | cons c cs2 ih => intro ix; cases ix with
     | zero => simp [wil]
     | succ ix => simp [wil, ih]
   have hbl : (wil H (nmOf L cs) cs).length = L.length := by
    rw [← hcl.1]
    have : ∀ cs2 : List (Nat × Bool), (wil H (nmOf L cs) cs2).length = cs2.length := by
     intro cs2
     induction cs2 with
     | nil => rfl
     | cons c cs2 ih => simp [wil, ih]
    exact this cs
   obtain ⟨hn, hlow, hget⟩ := wkt (wil H (nmOf L cs) cs) AH0 (by rw [hbl]; simpa [AH0] using hkey) wlqb
   have hn' : (wdg (wil H (nmOf L cs) cs) AH0).n = L.length := by rw [hn, hbl]; simp [AH0]
   have hget' : ∀ (ix id : Nat), L[ix]? = some id → (wdg (wil H (nmOf L cs) cs) AH0).get ix = renB (nmOf L cs) (wde id cs) (H.get id) := by
    intro ix id hi
    rw [hget ix, if_neg (by simp [AH0])]
    rw [show ix - AH0.n = ix by simp [AH0], hbs, hcl.2 ix id hi, hcmp ix id hi]
    rfl
   have hgetN : ∀ (ix : Nat), L.length ≤ ix → (wdg (wil H (nmOf L cs) cs) AH0).get ix = none := by
    intro ix hi
    cases hx : (wdg (wil H (nmOf L cs) cs) AH0).get ix with
    | none => rfl
    | some b => have := hlow ix b hx; omega
   have hρ : ∀ ix ver l, turned ρ H L cs ix ver = some l → ∃ id, L[ix]? = some id ∧ ((wde id cs = true ∧ ver = 0 ∧ ρ id (wse (H.get id)) = some l) ∨ (wde id cs = false ∧ ρ id ver = some l)) := by
    intro ix ver l hl
    simp only [turned] at hl
    cases hx : L[ix]? with
    | none => rw [hx] at hl; cases hl
    | some id =>
     rw [hx] at hl
     simp only at hl
     refine ⟨id, rfl, ?_⟩
     cases hc : wde id cs with
     | false => rw [hc, cond_false] at hl; exact .inr ⟨rfl, hl⟩
     | true =>
      rw [hc, cond_true] at hl
      split at hl
      ·rename_i h0; exact .inl ⟨rfl, h0, hl⟩
      ·cases hl
   have hcellid : ∀ b i x, ρ.cell b i = some x → (turned ρ H L cs).cell b i = some x := fun b i x h => h
   have hmemL : ∀ {ix id : Nat}, L[ix]? = some id → id ∈ L := fun h => List.mem_of_getElem? h
   have hTb : ∀ id, id ∈ L → Turns (nmOf L cs) ρ (turned ρ H L cs) (wun (H.get id)) := fun id hi => hT.sub fun r hr => by
    rw [← hrs]; exact List.mem_append.2 (.inr (wyu hi r hr))
   have hKb : ∀ id, id ∈ L → Toks (nmOf L cs) (wvx (H.get id)) := fun id hi => hTk.sub fun r hr => List.mem_append.2 (.inr (wzu hi r hr))
   have hopen : ∀ (ix id : Nat), L[ix]? = some id → wde id cs = true → ∃ b, H.get id = some (.cells b) ∧ b.lens ≠ [] := by
    intro ix id hi hc
    rw [hcmp ix id hi] at hc
    unfold wuu at hc
    simp only [Bool.and_eq_true] at hc
    have := hc.2.1
    unfold isOpen at this
    split at this
    ·rename_i b hb
     split at this
     ·cases this
     ·rename_i hne; exact ⟨b, hb, hne⟩
    ·cases this
   have hpp : ∀ (L : List Nat) (i : Nat), pins p L i = true → p ≤ i + L.length ∧ ∀ j, i + j < p → L[j]? = some (i + j) := by
    intro L
    induction L with
    | nil => intro i h; simp only [pins, Nat.ble_eq] at h; exact ⟨by simpa using h, fun j hj => by omega⟩
    | cons a L ih =>
     intro i h
     simp only [pins] at h
     cases hb : Nat.blt i p with
     | false =>
      have : ¬ i < p := fun h => by rw [show Nat.blt i p = true from Nat.ble_eq_true_of_le h] at hb; cases hb
      exact ⟨by omega, fun j hj => by omega⟩
     | true =>
      rw [hb, cond_true] at h
      simp only [Bool.and_eq_true, Nat.beq_eq] at h
      obtain ⟨h1, h2⟩ := ih (i + 1) h.2
      refine ⟨by simp only [List.length_cons]; omega, fun j hj => ?_⟩
      cases j with
      | zero => simp [h.1]
      | succ j => simp only [List.getElem?_cons_succ]; rw [h2 j (by omega)]; congr 1; omega
   obtain ⟨hple, hpin⟩ := hpp L 0 hpins
   refine ⟨⟨?_, ?_, hlow, ?_, ?_, hR.base, ⟨hR.fz.cell, ?_⟩⟩, ?_, hn', ?_, hnd, hall, ?_, ?_, fun ix hix => (by have := hpin ix (by omega); simpa using this), by omega, hcmp, ?_⟩
   ·intro ix ver l b hl hb
    obtain ⟨id, hi, hcase⟩ := hρ ix ver l hl
    rw [hget' ix id hi] at hb
    have hm := hmemL hi
    rcases hcase with ⟨hc, rfl, hl0⟩ | ⟨hc, hl0⟩
    ·obtain ⟨c, hcb, hne⟩ := hopen ix id hi hc
     rw [hc, hcb] at hb
     simp only [renB, cond_true, Option.some.injEq] at hb
     subst hb
     rw [hcb] at hl0
     simp only [wse] at hl0
     have hB := hR.blk _ _ _ _ hl0 hcb
     have hwf := hR.wf _ _ hcb
     have hC := hB.2 hwf.wver
     obtain ⟨n, s1, s2, s3, s4⟩ := hC.shape
     have hTb' := hTb id hm
     have hKb' := hKb id hm
     rw [hcb] at hTb' hKb'
     refine ⟨Nat.zero_le _, fun _ => ⟨⟨n, s1, fun h => (by cases h), fun _ => ?_, s4⟩, ?_, hC.esz, hC.hi⟩⟩
     ·refine ⟨(s3 hne).1, ?_⟩
      simp only [CBlk.lenAt, CBlk.top]
      simpa [CBlk.lenAt, CBlk.top] using (s3 hne).2
     ·intro i v hi2 hv
      obtain ⟨u, hu, hrel⟩ := wjq hwf hcellid hTb' hKb' i v hv
      have hi3 : i < c.lenAt c.top := by simpa [CBlk.lenAt, CBlk.top] using hi2
      obtain ⟨v', g1, g2⟩ := hC.vals i u hi3 hu
      exact ⟨v', g1, hrel v' g2⟩
    ·rw [hc] at hb
     cases hbk : H.get id with
     | none => rw [hbk] at hb; cases hb
     | some bk =>
      rw [hbk] at hb
      have hB := hR.blk _ _ _ _ hl0 hbk
      have hTb' := hTb id hm
      have hKb' := hKb id hm
      rw [hbk] at hTb' hKb'
      cases bk with
      | cells c =>
       simp only [renB, cond_false, Option.some.injEq] at hb
       subst hb
       refine ⟨hB.1, fun hv => ?_⟩
       have hC := hB.2 hv
       have hwf := hR.wf _ _ hbk
       obtain ⟨n, s1, s2, s3, s4⟩ := hC.shape
       refine ⟨⟨n, s1, fun h => by rw [wvh]; exact s2 h, fun h => ?_, s4⟩, ?_, hC.esz, hC.hi⟩
       ·have e1 := wwl (b := c) (wv := c.wver) (pf := c.pf) (wvh (nmOf L cs) c) ver
        exact ⟨(s3 h).1, by rw [e1]; exact (s3 h).2⟩
       ·intro i v hi2 hv2
        obtain ⟨u, hu, hrel⟩ := wjq hwf hcellid hTb' hKb' i v hv2
        have e1 := wwl (b := c) (wv := c.wver) (pf := c.pf) (wvh (nmOf L cs) c) ver
        have hi3 : i < c.lenAt ver := by rw [e1] at hi2; exact hi2
        obtain ⟨v', g1, g2⟩ := hC.vals i u hi3 hu
        exact ⟨v', g1, hrel v' g2⟩
      | map es =>
       simp only [renB, Option.some.injEq] at hb
       subst hb
       obtain ⟨h0, ms, clock, q1, q2, q3⟩ := hB
       refine ⟨h0, ms, clock, q1, by rw [wnt]; exact q2, ?_⟩
       intro i e mm he hmm
       rw [wvhb, Option.map_eq_some_iff] at he
       obtain ⟨e0, he0, rfl⟩ := he
       obtain ⟨k1, k2, k3⟩ := q3 i e0 mm he0 hmm
       obtain ⟨z1, z2⟩ := wsab (List.mem_of_getElem? he0)
       exact ⟨k1, k2, wzx k3 hcellid (hTb'.sub z1) (hKb'.sub z2)⟩
      | tok m e z =>
       simp only [renB, Option.some.injEq] at hb
       subst hb
       exact hB
   ·intro ix c hc
    by_cases hi : ix < L.length
    ·have hi' := List.getElem?_eq_getElem hi
     rw [hget' ix _ hi'] at hc
     cases hbk : H.get L[ix] with
     | none => rw [hbk] at hc; cases hc
     | some bk =>
      rw [hbk] at hc
      cases bk with
      | cells b =>
       have hwf := hR.wf _ _ hbk
       simp only [renB] at hc
       cases hcm : wde L[ix] cs with
       | true =>
        rw [hcm, cond_true] at hc
        cases hc
        refine ⟨?_, Nat.zero_le _, fun hp => wok hwf hp⟩
        intro n hn
        simp only [List.mem_singleton] at hn
        subst hn
        rw [wvh]
        exact hwf.lenAt_le _
       | false =>
        rw [hcm, cond_false] at hc
        cases hc
        exact ⟨fun n hn => by rw [wvh]; exact hwf.lens n hn, hwf.wver, fun hp => wok hwf hp⟩
      | map es => cases hc
      | tok m e z => cases hc
    ·rw [hgetN ix (by omega)] at hc; cases hc
   ·intro ix ver l ix' ver' l' h1 h2 e
    obtain ⟨id, hi, hc⟩ := hρ ix ver l h1
    obtain ⟨id', hi', hc'⟩ := hρ ix' ver' l' h2
    have g1 : ∃ v0, ρ id v0 = some l := by rcases hc with ⟨_, _, h⟩ | ⟨_, h⟩ <;> exact ⟨_, h⟩
    have g2 : ∃ v0, ρ id' v0 = some l' := by rcases hc' with ⟨_, _, h⟩ | ⟨_, h⟩ <;> exact ⟨_, h⟩
    obtain ⟨v0, g1⟩ := g1
    obtain ⟨v1, g2⟩ := g2
    have := hR.sep _ _ _ _ _ _ g1 g2 e
    subst this
    exact wvm hnd hi hi'
   ·intro ix ver l h1
    obtain ⟨id, hi, hc⟩ := hρ ix ver l h1
    rcases hc with ⟨_, _, h⟩ | ⟨_, h⟩ <;> exact hR.bnd _ _ _ h
   ·intro ix ver l i v b hl hv hb
    obtain ⟨id, hi, hc⟩ := hρ ix ver l hl
    rw [hget' ix id hi] at hb
    cases hbk : H.get id with
    | none => rw [hbk] at hb; cases hb
    | some bk =>
     rw [hbk] at hb
     have g : ∃ v0, ρ id v0 = some l := by rcases hc with ⟨_, _, h⟩ | ⟨_, h⟩ <;> exact ⟨_, h⟩
     obtain ⟨v0, g⟩ := g
     have hs := hR.fz.sep _ _ _ _ _ _ g hv hbk
     cases bk with
     | cells c =>
      simp only [renB] at hb
      cases hcm : wde id cs with
      | true => rw [hcm, cond_true] at hb; cases hb; exact hs
      | false => rw [hcm, cond_false] at hb; cases hb; exact hs
     | map es => exact hs.elim
     | tok m e z => simp only [renB] at hb; cases hb; exact hs
   ·intro ix ver hix
    rw [hn'] at hix
    simp only [turned]
    rw [List.getElem?_eq_none hix]
   ·intro v v' hv hrel
    exact wzx hrel hcellid (hT.sub fun r hr => by rw [← hrs]; exact List.mem_append.2 (.inl (wlt hv r hr))) (hTk.sub fun r hr => List.mem_append.2 (.inl (wmt hv r hr)))
   ·intro ix hs
    obtain ⟨b, hb⟩ := Option.isSome_iff_exists.1 hs
    have := hlow ix b hb
    omega
   ·intro ix hi
    have hi' := List.getElem?_eq_getElem hi
    rw [hget' ix _ hi']
    obtain ⟨b, hb⟩ := wte hall L[ix] (hmemL hi')
    rw [hb]
    cases b with
    | cells b => simp only [renB]; cases wde L[ix] cs <;> rfl
    | map es => rfl
    | tok m e z => rfl
   ·intro ix id hi hc
    refine ⟨?_, hopen ix id hi hc⟩
    rw [hcmp ix id hi] at hc
    unfold wuu at hc
    simp only [Bool.and_eq_true] at hc
    exact Nat.le_of_ble_eq_true hc.1
 ·cases h
end
end Go.Den
namespace Go.Den
noncomputable section
variable {P : Program}
def FrOf (ρ : Ren) (H : AH) (fr : Frs) (b i : Nat) : Prop := ∃ p ∈ fr, ∃ ver l c, ρ p.1 ver = some l ∧ l.block = b ∧ i < p.2 ∧ H.get p.1 = some (.cells c)
open Classical in
def Ren.frz (ρ : Ren) (H : AH) (w : World) (fr : Frs) : Ren := ⟨ρ.loc, fun b i => match ρ.cell b i with
 | some v => some v
 | none => if FrOf ρ H fr b i then w.cell? ⟨b, i, none⟩ else none⟩
theorem wxr {ρ : Ren} {H : AH} {w : World} {fr : Frs} {b i : Nat} {v : Value} (h : (ρ.frz H w fr).cell b i = some v) : ρ.cell b i = some v ∨ (FrOf ρ H fr b i ∧ w.cell? ⟨b, i, none⟩ = some v) := by
 unfold Ren.frz at h
 simp only at h
 cases hq : ρ.cell b i with
 | some u => rw [hq] at h; exact .inl h
 | none =>
  rw [hq] at h
  simp only at h
  split at h
  ·rename_i hf; exact .inr ⟨hf, h⟩
  ·cases h
theorem wpk (ρ : Ren) (H : AH) (w : World) (fr : Frs) : Sub ρ (ρ.frz H w fr) := ⟨fun _ _ _ h => h, fun b i v h => by unfold Ren.frz; simp only; rw [h]⟩
theorem FrOf.mono {ρ : Ren} {H : AH} {fr fr' : Frs} (hs : ∀ p ∈ fr, p ∈ fr') {b i : Nat} (h : FrOf ρ H fr b i) : FrOf ρ H fr' b i := by
 obtain ⟨p, h1, h2⟩ := h
 exact ⟨p, hs p h1, h2⟩
theorem wfp {ρ : Ren} {H : AH} {w : World} {fr fr' : Frs} (hs : ∀ p ∈ fr, p ∈ fr') : Sub (ρ.frz H w fr) (ρ.frz H w fr') := by
 refine ⟨fun _ _ _ h => h, fun b i v h => ?_⟩
 rcases wxr h with h1 | ⟨h1, h2⟩
 ·exact (wpk ρ H w fr').cell b i v h1
 ·unfold Ren.frz
  simp only
  cases hq : ρ.cell b i with
  | some u =>
   unfold Ren.frz at h
   simp only [hq] at h
   exact h
  | none => simp only; rw [if_pos (h1.mono hs)]; exact h2
theorem frz_get {ρ : Ren} {B : Nat} {H : AH} {w : World} (hR : Rel ρ B H w) {fr : Frs} {b i : Nat} {v : Value} (h : FrOf ρ H fr b i) (hc : w.cell? ⟨b, i, none⟩ = some v) : (ρ.frz H w fr).cell b i = some v := by
 unfold Ren.frz
 simp only
 cases hq : ρ.cell b i with
 | some u => have := hR.fz.cell b i u hq; rw [hc] at this; exact this.symm
 | none => simp only; rw [if_pos h]; exact hc
def wih (fr : Frs) : Prop := ∀ p ∈ fr, wmb p.1 = true
def wmqb (ρ : Ren) (H : AH) (w : World) (r : Option (List Value × Frs)) (l' : List Value) : Prop := ∀ l2 fr, r = some (l2, fr) → wih fr ∧ VRL (ρ.frz H w fr) l2 l'
theorem seal_row {ρ : Ren} {B : Nat} {H : AH} {w : World} (hR : Rel ρ B H w) {sl : List Value → Option (List Value × Frs)} (ih : ∀ l l', VRL ρ l l' → wmqb ρ H w (sl l) l') {a : Addr} {n c : Nat} {v' u : Value} {fr : Frs} (hv : VR ρ (.slice (some a) (n + 1) c) v')
  (h : wam P H sl a (n + 1) c = some (u, fr)) : wih fr ∧ VR (ρ.frz H w fr) u v' := by
 unfold wam at h
 split at h
 ·rename_i b hb
  cases hq : (wiab H (wdf P b) (n + 1) a c && rdOk b (aver a) (a.off + (n + 1) * wdf P b)) with
  | false => rw [hq, cond_false] at h; cases h
  | true =>
   rw [hq, cond_true] at h
   simp only [Bool.and_eq_true] at hq
   obtain ⟨hcap, hrd⟩ := hq
   generalize wdf P b = size at *
   have hrb : wtf H a ((n + 1) * size) = some b := by
    unfold wtf
    rw [hb]
    simp only [hrd, cond_true]
   obtain ⟨l, g1, g2⟩ := hv.slice_inv (.inl (by omega))
   have hsz : 0 < size := by
    cases c with
    | zero => simp only [wiab] at hcap; obtain ⟨_, _, _, _, _, h5⟩ := wjk hcap; exact h5
    | succ c => simp only [wiab, Bool.and_eq_true, Nat.blt_eq] at hcap; exact hcap.2
   have hle : n + 1 ≤ capOf l a c := by
    cases c with
    | zero =>
     simp only [wiab] at hcap
     obtain ⟨r1, r2, r3, r4⟩ := wii hR hcap g1
     simp only [capOf, r1]
     omega
    | succ c => simp only [wiab, Bool.and_eq_true, Nat.ble_eq] at hcap; exact hcap.1
   have hlen := wrs hR hrb
   have hsl : (slotsOf b.cells a.off ((n + 1) * size)).length = (n + 1) * size := by simp [slotsOf]; omega
   have hcells : ∀ j, j < (n + 1) * size → ∃ x x', (slotsOf b.cells a.off ((n + 1) * size))[j]? = some x ∧ w.cell? ⟨l.block, a.off + j, none⟩ = some x' ∧ VR ρ x x' := by
    intro j hj
    obtain ⟨x, x', h1, h2, h3⟩ := wzp hR hrb g1 j hj
    refine ⟨x, x', ?_, h2, h3⟩
    simp only [slotsOf, List.getElem?_take, List.getElem?_drop, if_pos hj]
    exact h1
   let ws : List Value := (List.range ((n + 1) * size)).map fun j => (w.cell? ⟨l.block, a.off + j, none⟩).getD undef
   have hws : VRL ρ (slotsOf b.cells a.off ((n + 1) * size)) ws := by
    refine ⟨by simp [ws, hsl], ?_⟩
    intro i x x' e e'
    have hi : i < (n + 1) * size := by rw [← hsl]; exact wgh e
    obtain ⟨y, y', h1, h2, h3⟩ := hcells i hi
    rw [h1] at e
    cases e
    simp only [ws, List.getElem?_map, List.getElem?_range hi, Option.map_some, h2, Option.getD_some, Option.some.injEq] at e'
    subst e'
    exact h3
   have key : ∀ cs f, VRL (ρ.frz H w f) cs ws → wih f → wcb cs = true → wmb a.block = true → wih ((a.block, a.off + (n + 1) * size) :: f) ∧ VR (ρ.frz H w ((a.block, a.off + (n + 1) * size) :: f)) (FL (n + 1) cs) v' := by
    intro cs f hcs hf hno hk
    refine ⟨fun p hp => ?_, ?_⟩
    ·simp only [List.mem_cons] at hp
     rcases hp with rfl | hp
     ·exact hk
     ·exact hf p hp
    ·rw [g2]
     have hcl : cs.length = (n + 1) * size := by have := hcs.1; simpa [ws] using this
     refine VR.list (a' := ⟨l.block, a.off, none⟩) hle (fun j => (w.cell? ⟨l.block, a.off + j, none⟩).getD undef) (fun i hi => ?_) (fun i x e => ?_)
     ·obtain ⟨y, y', h1, h2, h3⟩ := hcells i (by omega)
      rw [h2]
      exact frz_get hR ⟨(a.block, a.off + (n + 1) * size), List.mem_cons_self, aver a, l, b, g1, rfl, by simp only; omega, hb⟩ h2
     ·obtain ⟨x', e1, e2⟩ := hcs.get e
      have hi := wgh e
      have e3 : (w.cell? ⟨l.block, a.off + i, none⟩).getD undef = x' := by
       simp only [ws, List.getElem?_map, List.getElem?_range (show i < (n + 1) * size by omega), Option.map_some, Option.some.injEq] at e1
       exact e1
      rw [e3]
      exact VR.reloc (ρ2 := (ρ.frz H w ((a.block, a.off + (n + 1) * size) :: f)).noloc) (wfp (fun p hp => List.mem_cons_of_mem _ hp)).cell e2 ((wpd _).1 hno x (List.mem_of_getElem? e))
   cases hp : b.pf with
   | true =>
    simp only [hp, cond_true] at h
    cases hq2 : (wcb (slotsOf b.cells a.off ((n + 1) * size)) && wmb a.block) with
    | false => rw [hq2, cond_false] at h; cases h
    | true =>
     rw [hq2, cond_true] at h
     cases h
     simp only [Bool.and_eq_true] at hq2
     exact key _ [] (hws.mono (wpk ρ H w [])) (fun p hp => by simp at hp) hq2.1 hq2.2
   | false =>
    simp only [hp, cond_false] at h
    cases hs : sl (slotsOf b.cells a.off ((n + 1) * size)) with
    | none => rw [hs] at h; cases h
    | some r =>
     obtain ⟨cs, f⟩ := r
     rw [hs] at h
     simp only at h
     cases hq2 : (wcb cs && wmb a.block) with
     | false => rw [hq2, cond_false] at h; cases h
     | true =>
      rw [hq2, cond_true] at h
      cases h
      simp only [Bool.and_eq_true] at hq2
      obtain ⟨k1, k2⟩ := ih _ _ hws cs f hs
      exact key cs f k2 k1 hq2.1 hq2.2
 ·cases h
theorem wnd : wih [] := fun p hp => by simp at hp
theorem seal_v {ρ : Ren} {B : Nat} {H : AH} {w : World} (hR : Rel ρ B H w) {sl : List Value → Option (List Value × Frs)} (ih : ∀ l l', VRL ρ l l' → wmqb ρ H w (sl l) l') {v v' u : Value} {fr : Frs} (hv : VR ρ v v') (h : wqd P H sl v = some (u, fr)) : wih fr ∧ VR (ρ.frz H w fr) u v' := by
 have same : ∀ (x : Value) (f : Frs), VR ρ x v' → some (x, ([] : Frs)) = some (u, f) → wih f ∧ VR (ρ.frz H w f) u v' := by
  intro x f hx he
  cases he
  exact ⟨wnd, hx.mono (wpk ρ H w [])⟩
 unfold wqd at h
 split at h
 ·cases h
  rw [hv.of_flat rfl]
  exact ⟨wnd, .listNo⟩
 ·cases h
  obtain ⟨a', c', rfl⟩ := hv.slice_len
  exact ⟨wnd, .listNo⟩
 ·exact seal_row hR ih hv h
 ·rename_i cs
  obtain ⟨cs', rfl, h2⟩ := hv.agg_inv
  split at h
  ·rename_i l f hs
   cases h
   obtain ⟨k1, k2⟩ := ih _ _ h2 _ _ hs
   exact ⟨k1, .agg_mk k2⟩
  ·cases h
 ·rename_i cs
  obtain ⟨cs', rfl, h2⟩ := hv.tuple_inv
  split at h
  ·rename_i l f hs
   cases h
   obtain ⟨k1, k2⟩ := ih _ _ h2 _ _ hs
   exact ⟨k1, .tuple_mk k2⟩
  ·cases h
 ·rename_i t v
  have hi : ∃ x', v' = .iface t x' ∧ VR ρ v x' := by
   cases hv with
   | flat hf => simp only [Go.Den.flat] at hf; exact ⟨v, rfl, .flat hf⟩
   | iface h => exact ⟨_, rfl, h⟩
  obtain ⟨x', rfl, h2⟩ := hi
  split at h
  ·rename_i u' f hs
   cases h
   obtain ⟨k1, k2⟩ := ih _ _ (.cons h2 (.nil ρ)) _ _ hs
   obtain ⟨_, _, e, k3, _⟩ := k2.uncons
   cases e
   exact ⟨k1, .iface k3⟩
  ·cases h
 ·rename_i n cs t
  cases h
  obtain ⟨l, f, h1, h2, h3, h4, h5, h6⟩ := hv.own_inv
  rw [h4]
  exact ⟨wnd, (VR.list (a' := ⟨l.block, 0, none⟩) h2 f (fun i hi => by rw [Nat.zero_add]; exact h5 i hi) h6).mono (wpk ρ H w [])⟩
 ·rename_i g f c
  obtain ⟨f', c', rfl, _, h2, h3⟩ := hv.func_inv rfl
  split at h
  ·rename_i a p b q hs1 hs2
   cases h
   obtain ⟨k1, k2⟩ := ih _ _ h2 _ _ hs1
   obtain ⟨k3, k4⟩ := ih _ _ h3 _ _ hs2
   refine ⟨fun x hx => ?_, .func_mk rfl (k2.mono (wfp fun x hx => by simp [hx])) (k4.mono (wfp fun x hx => by simp [hx]))⟩
   simp only [List.mem_append] at hx
   rcases hx with hx | hx
   ·exact k1 x hx
   ·exact k3 x hx
  ·cases h
 ·exact same _ _ hv h
theorem wnqb {ρ : Ren} {B : Nat} {H : AH} {w : World} (hR : Rel ρ B H w) : ∀ (d : Nat) (l l' : List Value), VRL ρ l l' → wmqb ρ H w (wwc P H d l) l' := by
 intro d
 induction d with
 | zero => intro l l' _ l2 fr h; cases h
 | succ d ih =>
  intro l
  induction l with
  | nil =>
   intro l' hl l2 fr h
   cases h
   rw [hl.unnil]
   exact ⟨wnd, .nil _⟩
  | cons v l ihl =>
   intro l' hl l2 fr h
   obtain ⟨v', r', rfl, h1, h2⟩ := hl.uncons
   have e : wwc P H (d + 1) (v :: l) = wmr (one2 (wqd P H (wwc P H d) v)) (wwc P H (d + 1) l) := rfl
   rw [e] at h
   cases hs : wqd P H (wwc P H d) v with
   | none => rw [hs] at h; simp [one2, wmr] at h
   | some p =>
    obtain ⟨u, f⟩ := p
    cases hr : wwc P H (d + 1) l with
    | none => rw [hs, hr] at h; simp [one2, wmr] at h
    | some q =>
     obtain ⟨l3, g⟩ := q
     rw [hs, hr] at h
     simp only [one2, wmr, Option.some.injEq, Prod.mk.injEq] at h
     obtain ⟨rfl, rfl⟩ := h
     obtain ⟨k1, k2⟩ := seal_v hR ih h1 hs
     obtain ⟨k3, k4⟩ := ihl r' h2 _ _ hr
     refine ⟨fun x hx => ?_, .cons (k2.mono (wfp fun x hx => by simp [hx])) (k4.mono (wfp fun x hx => by simp [hx]))⟩
     simp only [List.mem_append] at hx
     rcases hx with hx | hx
     ·exact k1 x hx
     ·exact k3 x hx
theorem wwv (H : AH) (p : Nat × Nat) (l : Frs) : raise H (p :: l) = frz1 (raise H l) p.1 p.2 (wjab p.2 ((raise H l).get p.1)) := rfl
def Froze (b b' : Option ABlk) : Prop := match b, b' with
 | some (.cells c), some (.cells c') => ∃ n, c.frz ≤ n ∧ c' = { c with frz := n }
 | x, y => x = y
theorem Froze.refl (b : Option ABlk) : Froze b b := by
 cases b with
 | none => rfl
 | some b => cases b <;> first | exact ⟨_, Nat.le_refl _, rfl⟩ | rfl
theorem Froze.trans {a b c : Option ABlk} (h : Froze a b) (h' : Froze b c) : Froze a c := by
 cases a with
 | none => cases b with
  | none => exact h'
  | some b => cases h
 | some a => cases b with
  | none => cases a <;> cases h
  | some b => cases c with
   | none => cases b <;> cases h'
   | some c =>
    cases a with
    | cells a => cases b with
     | cells b => cases c with
      | cells c =>
       obtain ⟨n, h1, rfl⟩ := h
       obtain ⟨m, h2, rfl⟩ := h'
       exact ⟨m, Nat.le_trans h1 h2, rfl⟩
      | _ => cases h'
     | _ => cases h
    | map a => cases b with
     | map b => cases h; exact h'
     | _ => cases h
    | tok x y z => cases b with
     | tok x' y' z' => cases h; exact h'
     | _ => cases h
theorem wlq {H : AH} (hlow : Low H) : ∀ (l : Frs), wih l → (raise H l).n = H.n ∧ Low (raise H l) ∧ (∀ id, Froze (H.get id) ((raise H l).get id)) ∧ (∀ id, id ∉ wjl l → (raise H l).get id = H.get id) ∧
  (∀ p ∈ l, ∀ c, (raise H l).get p.1 = some (.cells c) → p.2 ≤ c.frz) := by
 intro l
 induction l with
 | nil => intro _; exact ⟨rfl, hlow, fun id => .refl _, fun _ _ => rfl, fun p hp => by simp at hp⟩
 | cons p l ih =>
  intro hk
  obtain ⟨h1, h2, h3, h4, h5⟩ := ih fun q hq => hk q (by simp [hq])
  have hkp := hk p (by simp)
  rw [wwv]
  cases hg : (raise H l).get p.1 with
  | none =>
   simp only [wjab, frz1]
   refine ⟨h1, h2, h3, fun id hid => h4 id fun h => hid (by simp [wjl] at h ⊢; exact .inr h), fun q hq c hc => ?_⟩
   simp only [List.mem_cons] at hq
   rcases hq with rfl | hq
   ·rw [hg] at hc; cases hc
   ·exact h5 q hq c hc
  | some b =>
   have hb : ∃ b', wjab p.2 (some b) = some b' ∧ Froze (some b) (some b') ∧ ∀ c, b' = .cells c → p.2 ≤ c.frz := by
    cases b with
    | cells b => exact ⟨_, rfl, ⟨_, Nat.le_max_left _ _, rfl⟩, fun c hc => by cases hc; exact Nat.le_max_right _ _⟩
    | map b => exact ⟨_, rfl, rfl, fun c hc => by cases hc⟩
    | tok x y z => exact ⟨_, rfl, rfl, fun c hc => by cases hc⟩
   obtain ⟨b', hb1, hb2, hb3⟩ := hb
   rw [hb1]
   simp only [frz1]
   have hgs := fun id => AH.get_set (H := raise H l) hkp b' id
   refine ⟨by rw [AH.set_eq]; exact h1, ?_, ?_, ?_, ?_⟩
   ·intro id c hc
    rw [hgs] at hc
    rw [AH.set_eq]
    simp only
    split at hc
    ·rename_i e; rw [e]; exact h2 _ _ hg
    ·exact h2 _ _ hc
   ·intro id
    rw [hgs]
    split
    ·rename_i e
     rw [e]
     have := h3 p.1
     rw [hg] at this
     exact this.trans hb2
    ·exact h3 id
   ·intro id hid
    rw [hgs, if_neg (fun e => hid (by simp [wjl, e]))]
    exact h4 id fun h => hid (by simp [wjl] at h ⊢; exact .inr h)
   ·intro q hq c hc
    rw [hgs] at hc
    simp only [List.mem_cons] at hq
    split at hc
    ·rename_i e
     cases hc
     rcases hq with rfl | hq
     ·exact hb3 c rfl
     ·have h6 := h5 q hq
      rw [e, hg] at h6
      cases b with
      | cells b =>
       obtain ⟨n, hn, hc2⟩ := hb2
       rw [hc2]
       have := h6 b rfl
       simp only
       omega
      | map b => cases hb2
      | tok x y z => cases hb2
    ·rename_i e
     rcases hq with rfl | hq
     ·exact absurd rfl e
     ·exact h5 q hq c hc
theorem wot {ρ : Ren} {B : Nat} {H : AH} {w : World} (hR : Rel ρ B H w) {fr : Frs} (hk : wih fr) : Post ρ B H w (ρ.frz H w fr) (raise H fr) w := by
 obtain ⟨h1, h2, h3, h4, h5⟩ := wlq hR.low fr hk
 have hs := wpk ρ H w fr
 have hcells : ∀ id c', (raise H fr).get id = some (.cells c') → ∃ c, H.get id = some (.cells c) ∧ c.frz ≤ c'.frz ∧ c' = { c with frz := c'.frz } := by
  intro id c' hc
  have := h3 id
  rw [hc] at this
  cases hq : H.get id with
  | none => rw [hq] at this; cases this
  | some b =>
   rw [hq] at this
   cases b with
   | cells c => obtain ⟨n, hn, rfl⟩ := this; exact ⟨c, rfl, hn, rfl⟩
   | map b => cases this
   | tok x y z => cases this
 have hother : ∀ id b, (raise H fr).get id = some b → (∀ c, b ≠ .cells c) → H.get id = some b := by
  intro id b hb hne
  have := h3 id
  rw [hb] at this
  cases hq : H.get id with
  | none => rw [hq] at this; cases this
  | some b0 =>
   rw [hq] at this
   cases b0 with
   | cells c => cases b with
    | cells c' => exact absurd rfl (hne c')
    | _ => cases this
   | map x => cases this; rfl
   | tok x y z => cases this; rfl
 have hsome : ∀ id, ((raise H fr).get id).isSome = (H.get id).isSome := by
  intro id
  have := h3 id
  cases hq : H.get id with
  | none => rw [hq] at this; cases hq2 : (raise H fr).get id with
   | none => rfl
   | some b => rw [hq2] at this; cases this
  | some b => rw [hq] at this; cases hq2 : (raise H fr).get id with
   | none => rw [hq2] at this; cases b <;> cases this
   | some b' => rfl
 refine ⟨⟨?_, ?_, h2, hR.sep, hR.bnd, hR.base, ⟨?_, ?_⟩⟩, ⟨hs, Nat.le_refl _, fun _ _ _ => rfl, ?_, ?_, by rw [h1]; exact Nat.le_refl _, ?_, ?_, ⟨rfl, rfl⟩, ?_⟩⟩
 ·intro id ver l b hl hb
  cases b with
  | cells c' =>
   obtain ⟨c, g1, g2, g3⟩ := hcells id c' hb
   obtain ⟨q1, q2⟩ := hR.blk id ver l _ hl g1
   rw [g3]
   refine ⟨q1, fun hv => ?_⟩
   have hC := q2 hv
   obtain ⟨n, s1, s2, s3, s4⟩ := hC.shape
   refine ⟨⟨n, s1, s2, s3, fun i hi hn => s4 i (Nat.le_trans g2 hi) hn⟩, ?_, hC.esz, fun hm => Nat.le_trans (hC.hi hm) g2⟩
   intro i v hi hv2
   obtain ⟨v', k1, k2⟩ := hC.vals i v hi hv2
   exact ⟨v', k1, k2.mono hs⟩
  | map es => exact (hR.blk id ver l _ hl (hother id _ hb fun c h => by cases h)).keep hs rfl
  | tok x y z => exact (hR.blk id ver l _ hl (hother id _ hb fun c h => by cases h)).keep hs rfl
 ·intro id c' hc
  obtain ⟨c, g1, g2, g3⟩ := hcells id c' hc
  have := hR.wf id c g1
  rw [g3]
  exact ⟨this.lens, this.wver, this.pf⟩
 ·intro b i v hv
  rcases wxr hv with h | ⟨_, h⟩
  ·exact hR.fz.cell _ _ _ h
  ·exact h
 ·intro id ver l i v b hl hv hb
  rcases wxr hv with h | ⟨⟨p, q1, ver0, l0, c, q2, q3, q4, q5⟩, _⟩
  ·cases b with
   | cells c' =>
    obtain ⟨c, g1, g2, g3⟩ := hcells id c' hb
    have := hR.fz.sep id ver l i v _ hl h g1
    exact Nat.lt_of_lt_of_le this g2
   | map es => exact hR.fz.sep id ver l i v _ hl h (hother id _ hb fun c h => by cases h)
   | tok x y z => exact hR.fz.sep id ver l i v _ hl h (hother id _ hb fun c h => by cases h)
  ·have hid := hR.sep _ _ _ _ _ _ q2 hl q3
   subst hid
   cases b with
   | cells c' => exact Nat.lt_of_lt_of_le q4 (h5 p q1 c' hb)
   | map es => have := hother _ _ hb (fun c h => by cases h); rw [q5] at this; cases this
   | tok x y z => have := hother _ _ hb (fun c h => by cases h); rw [q5] at this; cases this
 ·intro id ver l h h'
  have h : ρ id ver = some l := h
  rw [h'] at h; cases h
 ·intro id ver l h h'
  have h : ρ id ver = some l := h
  rw [h'] at h; cases h
 ·intro id h; rw [hsome]; exact h
 ·intro id h; rw [hsome] at h; exact .inl h
 ·intro b i v hv
  rcases wxr hv with h | ⟨⟨p, q1, ver0, l0, c, q2, q3, q4, q5⟩, _⟩
  ·exact .inl h
  ·exact .inr (.inr ⟨p.1, ver0, l0, by rw [q5]; rfl, q2, q3⟩)
end
end Go.Den
namespace Go.Den
noncomputable section
variable {P : Program}
structure Ext2 (p : Nat) (ρ : Ren) (H : AH) (w : World) (ρ' : Ren) (H' : AH) (w' : World) : Prop where
 pin : ∀ id ver l, id < p → ρ id ver = some l → ρ' id ver = some l
 cell : ∀ b i v, ρ.cell b i = some v → ρ'.cell b i = some v
 size : w.heap.size ≤ w'.heap.size
 frame : ∀ b : Nat, b < w.heap.size → (∀ id ver l, ρ id ver = some l → l.block ≠ b) → w'.heap[b]? = w.heap[b]?
 fresh : ∀ id ver l, ρ' id ver = some l → w.heap.size ≤ l.block ∨ ∃ id0 ver0 l0, ρ id0 ver0 = some l0 ∧ l0.block = l.block
 dom : ∀ id ver l, id < p → ρ' id ver = some l → ∃ ver0 l0, ρ id ver0 = some l0
 same : w'.os = w.os ∧ w'.output = w.output
 cells : ∀ b i v, ρ'.cell b i = some v → ρ.cell b i = some v ∨ w.heap.size ≤ b ∨ ∃ id ver l, ρ id ver = some l ∧ l.block = b
 keep : ∀ id, id < p → (H.get id).isSome = true → (H'.get id).isSome = true
theorem Ext2.refl (p : Nat) (ρ : Ren) (H : AH) (w : World) : Ext2 p ρ H w ρ H w :=
 ⟨fun _ _ _ _ h => h, fun _ _ _ h => h, Nat.le_refl _, fun _ _ _ => rfl, fun id ver l h => .inr ⟨id, ver, l, h, rfl⟩, fun id ver l _ h => ⟨ver, l, h⟩, ⟨rfl, rfl⟩, fun _ _ _ h => .inl h, fun _ _ h => h⟩
theorem Ext2.trans {p : Nat} {ρ ρ1 ρ2 : Ren} {H H1 H2 : AH} {w w1 w2 : World} (h : Ext2 p ρ H w ρ1 H1 w1) (h' : Ext2 p ρ1 H1 w1 ρ2 H2 w2) : Ext2 p ρ H w ρ2 H2 w2 := by
 refine ⟨fun id ver l hp e => h'.pin id ver l hp (h.pin id ver l hp e), fun b i v e => h'.cell b i v (h.cell b i v e), Nat.le_trans h.size h'.size, ?_, ?_, ?_, ⟨h'.same.1.trans h.same.1, h'.same.2.trans h.same.2⟩, ?_, fun id hp e => h'.keep id hp (h.keep id hp e)⟩
 ·intro b hb himg
  rw [h'.frame b (Nat.lt_of_lt_of_le hb h.size) ?_, h.frame b hb himg]
  intro id ver l hl e
  rcases h.fresh id ver l hl with h1 | ⟨id0, ver0, l0, h1, h2⟩
  ·omega
  ·exact himg id0 ver0 l0 h1 (h2.trans e)
 ·intro id ver l hl
  rcases h'.fresh id ver l hl with h1 | ⟨id0, ver0, l0, h1, h2⟩
  ·exact .inl (Nat.le_trans h.size h1)
  ·rcases h.fresh id0 ver0 l0 h1 with h3 | ⟨id1, ver1, l1, h3, h4⟩
   ·exact .inl (by omega)
   ·exact .inr ⟨id1, ver1, l1, h3, h4.trans h2⟩
 ·intro id ver l hp hl
  obtain ⟨ver0, l0, h1⟩ := h'.dom id ver l hp hl
  exact h.dom id ver0 l0 hp h1
 ·intro b i v hv
  rcases h'.cells b i v hv with h1 | h1 | ⟨id, ver, l, h1, h2⟩
  ·exact h.cells b i v h1
  ·exact .inr (.inl (Nat.le_trans h.size h1))
  ·rcases h.fresh id ver l h1 with h3 | ⟨id0, ver0, l0, h3, h4⟩
   ·exact .inr (.inl (by omega))
   ·exact .inr (.inr ⟨id0, ver0, l0, h3, h4.trans h2⟩)
theorem Ext.weak {p : Nat} {ρ ρ' : Ren} {H H' : AH} {w w' : World} (h : Ext ρ H w ρ' H' w') (hp : p ≤ H.n) : Ext2 p ρ H w ρ' H' w' := by
 refine ⟨fun id ver l _ e => h.sub id ver l e, h.sub.cell, h.size, fun b hb himg => h.frame b hb fun id ver l _ e => himg id ver l e, ?_, ?_, h.same, ?_, fun id _ e => h.keep id e⟩
 ·intro id ver l hl
  cases hq : ρ id ver with
  | some l0 =>
   have := h.sub id ver l0 hq
   rw [hl] at this
   cases this
   exact .inr ⟨id, ver, l, hq, rfl⟩
  | none =>
   rcases h.fresh id ver l hl hq with h1 | ⟨ver0, l0, _, h2, h3⟩
   ·exact .inl h1
   ·exact .inr ⟨id, ver0, l0, h2, h3⟩
 ·intro id ver l hid hl
  cases hq : ρ id ver with
  | some l0 => exact ⟨ver, l0, hq⟩
  | none =>
   rcases h.dom id ver l hl hq with ⟨h1, _⟩ | ⟨_, h1⟩
   ·omega
   ·exact h1
 ·intro b i v hv
  rcases h.cells b i v hv with h1 | h1 | ⟨id, ver, l, _, h2, h3⟩
  ·exact .inl h1
  ·exact .inr (.inl h1)
  ·exact .inr (.inr ⟨id, ver, l, h2, h3⟩)
theorem Bd.next {ρ ρ' : Ren} {H H' : AH} {w w' : World} (h : Bd ρ H) (hlow : Low H) (he : Ext ρ H w ρ' H' w') : Bd ρ' H' := by
 intro id ver hid
 cases hq : ρ' id ver with
 | none => rfl
 | some l =>
  exfalso
  have hn := he.n
  rcases he.dom id ver l hq (h id ver (by omega)) with ⟨_, h1⟩ | ⟨h1, _⟩
  ·omega
  ·obtain ⟨b, hb⟩ := Option.isSome_iff_exists.1 h1
   have := hlow id b hb
   omega
def wby (P : Program) (G : Nat → Option (List Value)) (f : FuncId) (args : List Value) (H : AH) (v : Value) (H' : AH) : Prop := H.n ≤ H'.n ∧
 ∀ (ρ : Ren) (B : Nat) (w : World) (args' : Array Value), Rel ρ B H w → GOK G ρ → Bd ρ H → VRL ρ args args'.toList →
  Calls P f args' w fun e w' => ∃ ρ' v', e = .returned v' ∧ VR ρ' v v' ∧ Rel ρ' B H' w' ∧ Bd ρ' H' ∧ Ext2 H.n ρ H w ρ' H' w'
theorem getN_get : ∀ (L : List Nat) (k n : Nat), L[k]? = some n → getN L k = n := by
 intro L
 induction L with
 | nil => intro k n h; simp at h
 | cons a L ih =>
  intro k n h
  cases k with
  | zero => simp at h; exact h
  | succ k => exact ih k n (by simpa using h)
theorem wxv (n : Nat) : (zeros n).length = n ∧ ∀ x ∈ zeros n, x = 0 := by
 induction n with
 | zero => exact ⟨rfl, fun x h => by have h : x ∈ ([] : List Nat) := h; simp at h⟩
 | succ n ih =>
  refine ⟨by show (0 :: zeros n).length = _; simp [ih.1], fun x h => ?_⟩
  have h : x ∈ (0 :: zeros n) := h
  simp only [List.mem_cons] at h
  rcases h with rfl | h
  ·rfl
  ·exact ih.2 x h
theorem wnkb (H : AH) : ∀ (cs : List (Nat × Bool)) (k : Nat) (c : Nat × Bool), cs[k]? = some c → getN (wqh H cs) k = if c.2 then wse (H.get c.1) else 0 := by
 intro cs
 induction cs with
 | nil => intro k c h; simp at h
 | cons a cs ih =>
  intro k c h
  cases k with
  | zero =>
   simp at h
   subst h
   show (bif a.2 then wse (H.get a.1) else 0) = _
   cases a.2 <;> rfl
  | succ k => exact ih k c (by simpa using h)
theorem wokb (m : Nm) (H1 Hc : AH) : ∀ (cs : List (Nat × Bool)) (ix : Nat) (H : AH), Low H → (∀ c ∈ cs, wmb c.1 = true ∧ c.1 < H.n) → (∀ {i j : Nat} {x y : Nat × Bool}, cs[i]? = some x → cs[j]? = some y → x.1 = y.1 → i = j) → (∀ j, j < cs.length → (Hc.get (ix + j)).isSome = true) →
  (wui m H1 Hc cs ix H).n = H.n ∧ Low (wui m H1 Hc cs ix H) ∧ (∀ id, (∀ c ∈ cs, c.1 ≠ id) → (wui m H1 Hc cs ix H).get id = H.get id) ∧
  ∀ (j : Nat) (c : Nat × Bool), cs[j]? = some c → (wui m H1 Hc cs ix H).get c.1 = wuf m c.2 (wse (H1.get c.1)) (wikb (H1.get c.1)) (Hc.get (ix + j)) := by
 intro cs
 induction cs with
 | nil => intro ix H hl _ _ _; exact ⟨rfl, hl, fun _ _ => rfl, fun j c h => by simp at h⟩
 | cons a cs ih =>
  intro ix H hl hk hu hs
  have hka := hk a (by simp)
  have h0 := hs 0 (by simp)
  obtain ⟨b0, hb0⟩ := Option.isSome_iff_exists.1 h0
  rw [Nat.add_zero] at hb0
  have hbb : ∃ b, wuf m a.2 (wse (H1.get a.1)) (wikb (H1.get a.1)) (Hc.get ix) = some b := by
   rw [hb0]
   cases b0 with
   | cells b => simp only [wuf]; cases a.2 <;> exact ⟨_, rfl⟩
   | map es => exact ⟨_, rfl⟩
   | tok x y z => exact ⟨_, rfl⟩
  obtain ⟨bb, hbb⟩ := hbb
  have e : wui m H1 Hc (a :: cs) ix H = wui m H1 Hc cs (ix + 1) (H.set a.1 bb) := by
   show wui m H1 Hc cs (ix + 1) (setO H a.1 (wuf m a.2 (wse (H1.get a.1)) (wikb (H1.get a.1)) (Hc.get ix))) = _
   rw [hbb]
   rfl
  have hg := fun id => AH.get_set (H := H) hka.1 bb id
  have hn : (H.set a.1 bb).n = H.n := by rw [AH.set_eq]
  have hl' : Low (H.set a.1 bb) := by
   intro id c hc
   rw [hg] at hc
   rw [hn]
   split at hc
   ·rename_i e; rw [e]; exact hka.2
   ·exact hl id c hc
  obtain ⟨h1, h2, h3, h4⟩ := ih (ix + 1) (H.set a.1 bb) hl' (fun c hc => by rw [hn]; exact hk c (by simp [hc])) (fun {i j x y} p q r => by
   have := hu (i := i + 1) (j := j + 1) (by simpa using p) (by simpa using q) r
   omega) (fun j hj => by have := hs (j + 1) (by simp; omega); rw [show ix + 1 + j = ix + (j + 1) by omega]; exact this)
  rw [e]
  refine ⟨h1.trans hn, h2, fun id hid => ?_, fun j c hc => ?_⟩
  ·rw [h3 id fun c hc => hid c (by simp [hc]), hg, if_neg (fun e => hid a (by simp) e.symm)]
  ·cases j with
   | zero =>
    simp at hc
    subst hc
    rw [h3 a.1 ?_, hg, if_pos rfl, Nat.add_zero]
    ·exact hbb.symm
    ·intro c hc e2
     obtain ⟨i, hi, hci⟩ := List.getElem_of_mem hc
     have := hu (i := i + 1) (j := 0) (x := c) (y := a) (by simp [hi, hci]) rfl e2
     omega
   | succ j =>
    rw [h4 j c (by simpa using hc), show ix + 1 + j = ix + (j + 1) by omega]
theorem wtab (m : Nm) (Hc : AH) : ∀ (d k : Nat) (H : AH), wmb (H.n + d) = true → Low H →
  (news m Hc k d H).n = H.n + d ∧ Low (news m Hc k d H) ∧ (∀ id, id < H.n → (news m Hc k d H).get id = H.get id) ∧ ∀ j, j < d → (news m Hc k d H).get (H.n + j) = wuf m false 0 0 (Hc.get (k + j)) := by
 intro d
 induction d with
 | zero => intro k H _ hl; exact ⟨rfl, hl, fun _ _ => rfl, fun j h => by omega⟩
 | succ d ih =>
  intro k H hk hl
  have hk' : wmb H.n = true := wbh hk (by omega)
  have e : news m Hc k (d + 1) H = news m Hc (k + 1) d (addO H (wuf m false 0 0 (Hc.get k))) := rfl
  have hg := fun id => wwx hk' hl (wuf m false 0 0 (Hc.get k)) id
  have hn := wit H (wuf m false 0 0 (Hc.get k))
  obtain ⟨h1, h2, h3, h4⟩ := ih (k + 1) (addO H (wuf m false 0 0 (Hc.get k))) (by rw [hn, show H.n + 1 + d = H.n + (d + 1) by omega]; exact hk) (wthb hk' hl _)
  rw [e]
  refine ⟨by rw [h1, hn]; omega, h2, fun id hid => ?_, fun j hj => ?_⟩
  ·rw [h3 id (by omega), hg, if_neg (by omega)]
  ·cases j with
   | zero =>
    have h5 := hg H.n
    rw [if_pos rfl] at h5
    have h6 := h3 H.n (by omega)
    rw [h5] at h6
    exact h6
   | succ j =>
    have := h4 j (by omega)
    rw [hn] at this
    rw [show H.n + (j + 1) = H.n + 1 + j by omega, this, show k + 1 + j = k + (j + 1) by omega]
def merged (ρ ρc' : Ren) (H1 : AH) (L : List Nat) (cs : List (Nat × Bool)) (n3 : Nat) : Ren :=
 ⟨fun id ver => if id < H1.n then (if id ∈ L then (if wde id cs = true then (if ver < wse (H1.get id) then ρ id ver else ρc' (idxOf id L 0) (ver - wse (H1.get id))) else ρc' (idxOf id L 0) ver) else ρ id ver)
  else if id < n3 then ρc' (L.length + (id - H1.n)) ver else ρ id ver, ρc'.cell⟩
theorem merge_ok {ρ : Ren} {B : Nat} {H1 : AH} {w : World} (hR : Rel ρ B H1 w) {vs : List Value} {N : Nrm} (hN : wyd H1 0 vs = some N) {v : Value} {Hc : AH} {fr : Frs} {v2 : Value} {nb : Option ABlk} {eff : Bool} {H3 : AH} {wr : List Nat}
  (hm : wrh H1 fr N.L (wrd H1 (wxc vs ++ wgb H1 N.L) 0 N.L 0) v Hc = .did v2 nb eff H3 wr) :
  nb = none ∧ eff = true ∧ wr = changed H1 H3 N.L ++ wjl fr ∧ H1.n ≤ H3.n ∧ (∀ id, id ∉ N.L → id < H1.n → H3.get id = H1.get id) ∧
  ∀ {w' : World} {ρc' : Ren} {v' : Value}, Free ρ H1.n H3.n → VR ρc' v v' → Rel ρc' B Hc w' → Bd ρc' Hc → Ext2 N.H.n (turned ρ H1 N.L (wrd H1 (wxc vs ++ wgb H1 N.L) 0 N.L 0)) N.H w ρc' Hc w' →
   ∃ ρ', VR ρ' v2 v' ∧ Post ρ B H1 w ρ' H3 w' := by
 obtain ⟨hRc, hBc, hNn, _, hnd, hall, hNs, hNk, _, _, hcmp, hopen⟩ := wvn hN hR
 generalize hcs : wrd H1 (wxc vs ++ wgb H1 N.L) 0 N.L 0 = cs at *
 generalize hLL : N.L = L at *
 have hcl : cs.length = L.length ∧ ∀ (j : Nat) (id : Nat), L[j]? = some id → cs[j]? = some (id, wde id cs) := by
  have := wnk H1 (wxc vs ++ wgb H1 L) 0 L 0
  rw [hcs] at this
  refine ⟨this.1, fun j id h => ?_⟩
  rw [this.2 j id h, hcmp j id h, Nat.zero_add]
 have hcu : ∀ {i j : Nat} {x y : Nat × Bool}, cs[i]? = some x → cs[j]? = some y → x.1 = y.1 → i = j := by
  intro i j x y h1 h2 h3
  have hi : i < L.length := by rw [← hcl.1]; exact wgh h1
  have hj : j < L.length := by rw [← hcl.1]; exact wgh h2
  have g1 := hcl.2 i _ (List.getElem?_eq_getElem hi)
  have g2 := hcl.2 j _ (List.getElem?_eq_getElem hj)
  rw [h1] at g1
  rw [h2] at g2
  cases g1; cases g2
  simp only at h3
  exact wvm hnd (n := L[i]) (List.getElem?_eq_getElem hi) (by rw [h3]; exact List.getElem?_eq_getElem hj)
 unfold wrh at hm
 cases hq : (wet L && (Nat.ble L.length Hc.n && (wmb (H1.n + Hc.n) && (wft L.length (wqh H1 cs) (toks v ++ wmk Hc Hc.n 0) && (wlk Hc cs 0 && hasAll Hc (upto L.length)))))) with
 | false => rw [hq, cond_false] at hm; cases hm
 | true =>
 rw [hq, cond_true] at hm
 simp only [Bool.and_eq_true, Nat.ble_eq] at hq
 obtain ⟨hkeys, hle, hkey, htops, hbacks, hthere⟩ := hq
 generalize hmm : wbm H1.n L.length L (wqh H1 cs) = m at hm
 cases hm
 have hkeyL : ∀ id ∈ L, wmb id = true := by unfold wet at hkeys; exact wcf hkeys
 have hltL : ∀ id ∈ L, id < H1.n := fun id hi => by
  obtain ⟨b, hb⟩ := wte hall id hi
  exact hR.low id b hb
 have hHcs : ∀ j, j < cs.length → True := fun _ _ => trivial
 refine ⟨rfl, rfl, rfl, ?_⟩
 have hplace : ∀ {id : Nat}, id ∈ L → L[idxOf id L 0]? = some id := by
  intro id hi
  obtain ⟨j, h1, h2⟩ := wuv id L 0 hi
  rw [h1, Nat.zero_add]; exact h2
 have hplace' : ∀ {ix id : Nat}, L[ix]? = some id → idxOf id L 0 = ix := fun {ix id} h => wvm hnd (hplace (List.mem_of_getElem? h)) h
 have hlow1 := hR.low
 have hsomes : ∀ j, j < cs.length → (Hc.get (0 + j)).isSome = true := by
  intro j hj
  rw [hcl.1] at hj
  obtain ⟨b, hb⟩ := wte hthere j (by
   have : ∀ n j, j < n → j ∈ upto n := by
    intro n
    induction n with
    | zero => intro j h; omega
    | succ n ih =>
     intro j h
     show j ∈ upto n ++ [n]
     by_cases h2 : j = n
     ·subst h2; simp
     ·exact List.mem_append.2 (.inl (ih j (by omega)))
   exact this _ _ hj)
  rw [Nat.zero_add, hb]; rfl
 ·obtain ⟨b1, b2, b3, b4⟩ := wokb m H1 Hc cs 0 H1 hlow1 (fun c hc => by
    obtain ⟨i, hi, hci⟩ := List.getElem_of_mem hc
    have hi' : i < L.length := by rw [← hcl.1]; exact hi
    have := hcl.2 i _ (List.getElem?_eq_getElem hi')
    rw [List.getElem?_eq_getElem hi, hci] at this
    cases this
    exact ⟨hkeyL _ (List.getElem_mem hi'), hltL _ (List.getElem_mem hi')⟩) hcu hsomes
  generalize hH2 : wui m H1 Hc cs 0 H1 = H2 at *
  obtain ⟨n1, n2, n3, n4⟩ := wtab m Hc (Hc.n - L.length) L.length H2 (by rw [b1]; exact wbh hkey (by omega)) b2
  generalize hH3 : news m Hc L.length (Hc.n - L.length) H2 = H3 at *
  have hn3 : H3.n = H1.n + (Hc.n - L.length) := by rw [n1, b1]
  have hnotin : ∀ id, id ∉ L → ∀ c ∈ cs, c.1 ≠ id := by
   intro id hid c hc e
   obtain ⟨i, hi, hci⟩ := List.getElem_of_mem hc
   have hi' : i < L.length := by rw [← hcl.1]; exact hi
   have := hcl.2 i _ (List.getElem?_eq_getElem hi')
   rw [List.getElem?_eq_getElem hi, hci] at this
   cases this
   exact hid (by rw [← e]; exact List.getElem_mem hi')
  have gOld : ∀ id, id ∉ L → id < H1.n → H3.get id = H1.get id := fun id h1 h2 => by rw [n3 id (by rw [b1]; exact h2), b3 id (hnotin id h1)]
  have gL : ∀ (ix id : Nat), L[ix]? = some id → H3.get id = wuf m (wde id cs) (wse (H1.get id)) (wikb (H1.get id)) (Hc.get ix) := by
   intro ix id hi
   rw [n3 id (by rw [b1]; exact hltL id (List.mem_of_getElem? hi)), b4 ix _ (hcl.2 ix id hi), Nat.zero_add]
  have gNew : ∀ j, j < Hc.n - L.length → H3.get (H1.n + j) = wuf m false 0 0 (Hc.get (L.length + j)) := by
   intro j hj
   have := n4 j hj
   rw [b1] at this
   exact this
  refine ⟨by omega, gOld, ?_⟩
  intro w' ρc' v' hfree hv hRc' hBc' hE
  rw [hNn] at hE
  have hρc : ∀ {ix ver : Nat} {l : Loc}, turned ρ H1 L cs ix ver = some l → ∃ id, L[ix]? = some id ∧ ((wde id cs = true ∧ ver = 0 ∧ ρ id (wse (H1.get id)) = some l) ∨ (wde id cs = false ∧ ρ id ver = some l)) := by
   intro ix ver l hl
   simp only [turned] at hl
   cases hx : L[ix]? with
   | none => rw [hx] at hl; cases hl
   | some id =>
    rw [hx] at hl
    simp only at hl
    refine ⟨id, rfl, ?_⟩
    cases hc : wde id cs with
    | false => rw [hc, cond_false] at hl; exact .inr ⟨rfl, hl⟩
    | true =>
     rw [hc, cond_true] at hl
     split at hl
     ·rename_i h0; exact .inl ⟨rfl, h0, hl⟩
     ·cases hl
  have hρ1 : ∀ {ix ver : Nat} {l : Loc}, turned ρ H1 L cs ix ver = some l → ∃ id ver0, L[ix]? = some id ∧ ρ id ver0 = some l := by
   intro ix ver l hl
   obtain ⟨id, h1, h2⟩ := hρc hl
   rcases h2 with ⟨_, _, h⟩ | ⟨_, h⟩ <;> exact ⟨id, _, h1, h⟩
  have htop : ∀ {id : Nat}, id ∈ L → wde id cs = true → ∃ b, H1.get id = some (.cells b) ∧ b.lens ≠ [] := fun {id} hi hc => (hopen _ _ (hplace hi) hc).2
  have hvers : ∀ {id ver : Nat} {l : Loc}, id ∈ L → wde id cs = true → ρ id ver = some l → ver ≤ wse (H1.get id) := by
   intro id ver l hi hc hl
   obtain ⟨b, hb, _⟩ := htop hi hc
   rw [hb]
   exact (hR.blk _ _ _ _ hl hb).1
  let ρ' := merged ρ ρc' H1 L cs H3.n
  have e1 : ∀ {id ver : Nat}, id < H1.n → id ∉ L → ρ' id ver = ρ id ver := by
   intro id ver h1 h2
   show (if id < H1.n then _ else _) = _
   rw [if_pos h1, if_neg h2]
  have e2 : ∀ {ix id ver : Nat}, L[ix]? = some id → wde id cs = false → ρ' id ver = ρc' ix ver := by
   intro ix id ver h1 h2
   have hi := List.mem_of_getElem? h1
   show (if id < H1.n then _ else _) = _
   rw [if_pos (hltL id hi), if_pos hi, if_neg (by rw [h2]; simp), hplace' h1]
  have e3 : ∀ {ix id s : Nat}, L[ix]? = some id → wde id cs = true → ρ' id (wse (H1.get id) + s) = ρc' ix s := by
   intro ix id s h1 h2
   have hi := List.mem_of_getElem? h1
   show (if id < H1.n then _ else _) = _
   rw [if_pos (hltL id hi), if_pos hi, if_pos h2, if_neg (by omega), hplace' h1, Nat.add_sub_cancel_left]
  have e4 : ∀ {id ver : Nat}, id ∈ L → wde id cs = true → ver < wse (H1.get id) → ρ' id ver = ρ id ver := by
   intro id ver h1 h2 h3
   show (if id < H1.n then _ else _) = _
   rw [if_pos (hltL id h1), if_pos h1, if_pos h2, if_pos h3]
  have e5 : ∀ {j ver : Nat}, j < Hc.n - L.length → ρ' (H1.n + j) ver = ρc' (L.length + j) ver := by
   intro j ver h1
   show (if H1.n + j < H1.n then _ else if H1.n + j < H3.n then ρc' (L.length + (H1.n + j - H1.n)) ver else _) = _
   rw [if_neg (by omega), if_pos (by omega), Nat.add_sub_cancel_left]
  have e6 : ∀ {id ver : Nat}, H3.n ≤ id → ρ' id ver = ρ id ver := by
   intro id ver h1
   show (if id < H1.n then _ else if id < H3.n then _ else ρ id ver) = _
   rw [if_neg (by omega), if_neg (by omega)]
  have src : ∀ {id ver : Nat} {l : Loc}, ρ' id ver = some l → (ρ id ver = some l ∧ (id ∉ L ∨ (wde id cs = true ∧ id ∈ L ∧ ver < wse (H1.get id))) ∧ (id < H1.n ∨ H3.n ≤ id)) ∨
    (∃ ix s, ρc' ix s = some l ∧ ((L[ix]? = some id ∧ ((wde id cs = true ∧ ver = wse (H1.get id) + s) ∨ (wde id cs = false ∧ ver = s))) ∨ (∃ j, j < Hc.n - L.length ∧ ix = L.length + j ∧ id = H1.n + j ∧ ver = s))) := by
   intro id ver l hl
   by_cases h1 : id < H1.n
   ·by_cases h2 : id ∈ L
    ·have h3 := hplace h2
     cases hc : wde id cs with
     | false => rw [e2 h3 hc] at hl; exact .inr ⟨_, _, hl, .inl ⟨h3, .inr ⟨rfl, rfl⟩⟩⟩
     | true =>
      by_cases h4 : ver < wse (H1.get id)
      ·rw [e4 h2 hc h4] at hl; exact .inl ⟨hl, .inr ⟨rfl, h2, h4⟩, .inl h1⟩
      ·obtain ⟨s, rfl⟩ : ∃ s, ver = wse (H1.get id) + s := ⟨ver - wse (H1.get id), by omega⟩
       rw [e3 h3 hc] at hl
       exact .inr ⟨_, s, hl, .inl ⟨h3, .inl ⟨rfl, rfl⟩⟩⟩
    ·rw [e1 h1 h2] at hl; exact .inl ⟨hl, .inl h2, .inl h1⟩
   ·by_cases h2 : id < H3.n
    ·obtain ⟨j, rfl⟩ : ∃ j, id = H1.n + j := ⟨id - H1.n, by omega⟩
     have hj : j < Hc.n - L.length := by omega
     rw [e5 hj] at hl
     exact .inr ⟨_, _, hl, .inr ⟨j, hj, rfl, rfl, rfl⟩⟩
    ·rw [e6 (by omega)] at hl
     exact .inl ⟨hl, .inl fun h => h1 (hltL id h), .inr (by omega)⟩
  have hsub : Sub ρ ρ' := by
   refine ⟨fun id ver l hl => ?_, fun b i v h => hE.cell b i v h⟩
   by_cases h1 : id < H1.n
   ·by_cases h2 : id ∈ L
    ·have h3 := hplace h2
     have hlt := wgh h3
     cases hc : wde id cs with
     | false =>
      rw [e2 h3 hc]
      refine hE.pin _ _ _ hlt ?_
      simp only [turned, h3, hc, cond_false]
      exact hl
     | true =>
      by_cases h4 : ver < wse (H1.get id)
      ·rw [e4 h2 hc h4]; exact hl
      ·have h5 := hvers h2 hc hl
       have h6 : ver = wse (H1.get id) + 0 := by omega
       rw [h6, e3 h3 hc]
       refine hE.pin _ _ _ hlt ?_
       simp only [turned, h3, hc, cond_true, if_true]
       rw [h6] at hl
       exact hl
    ·rw [e1 h1 h2]; exact hl
   ·by_cases h2 : id < H3.n
    ·rw [hfree id ver (by omega) h2] at hl; cases hl
    ·rw [e6 (by omega)]; exact hl
  have hcellid : ∀ b i x, ρc'.cell b i = some x → ρ'.cell b i = some x := fun b i x h => h
  have hTurns : ∀ rs, Turns m ρc' ρ' rs := by
   intro rs r _ l hl
   have hlt : r.1 < Hc.n := by
    rcases Nat.lt_or_ge r.1 Hc.n with h | h
    ·exact h
    ·rw [hBc' _ _ h] at hl; cases hl
   rw [← hmm]
   simp only [wbm]
   cases hb : Nat.blt r.1 L.length with
   | true =>
    rw [cond_true]
    have hix : r.1 < L.length := Nat.le_of_ble_eq_true hb
    have h3 := List.getElem?_eq_getElem hix
    have h4 := getN_get L r.1 _ h3
    have h5 := wnkb H1 cs r.1 _ (hcl.2 _ _ h3)
    simp only at h5
    simp only [h4, h5]
    cases hc : wde L[r.1] cs with
    | false =>
     simp only [Bool.false_eq_true, if_false]
     rw [show Nat.beq 0 0 = true from rfl, cond_true, e2 h3 hc]
     exact hl
    | true =>
     simp only [if_true]
     cases hz : Nat.beq (wse (H1.get L[r.1])) 0 with
     | true =>
      have hz' := Nat.eq_of_beq_eq_true hz
      rw [cond_true]
      have := e3 (s := r.2) h3 hc
      rw [hz', Nat.zero_add] at this
      rw [this]; exact hl
     | false =>
      rw [cond_false]
      have := e3 (s := r.2) h3 hc
      show ρ' L[r.1] (wse (H1.get L[r.1]) + r.2) = _
      rw [this]; exact hl
   | false =>
    rw [cond_false]
    have hge : L.length ≤ r.1 := by
     rcases Nat.lt_or_ge r.1 L.length with h | h
     ·rw [show Nat.blt r.1 L.length = true from Nat.ble_eq_true_of_le h] at hb; cases hb
     ·exact h
    have := e5 (j := r.1 - L.length) (ver := r.2) (by omega)
    show ρ' (H1.n + (r.1 - L.length)) r.2 = _
    rw [this, show L.length + (r.1 - L.length) = r.1 by omega]
    exact hl
  have hToks : ∀ ts, (∀ t ∈ ts, t ∈ toks v ++ wmk Hc Hc.n 0) → Toks m ts := by
   intro ts hts t ht n
   unfold wft at htops
   have h1 := wcf htops t (hts t ht)
   rw [← hmm]
   simp only [wbm]
   cases hb : Nat.blt t L.length with
   | true =>
    rw [hb, cond_true] at h1
    rw [cond_true]
    simp only [h1, cond_true]
   | false => rw [cond_false]
  have hnewToks : ∀ ix, ix < Hc.n → ∀ t ∈ wvx (Hc.get ix), t ∈ wmk Hc Hc.n 0 := by
   have : ∀ (d k ix : Nat), k ≤ ix → ix < k + d → ∀ t ∈ wvx (Hc.get ix), t ∈ wmk Hc d k := by
    intro d
    induction d with
    | zero => intro k ix h1 h2; omega
    | succ d ih =>
     intro k ix h1 h2 t ht
     show t ∈ wvx (Hc.get k) ++ wmk Hc d (k + 1)
     by_cases h : ix = k
     ·subst h; exact List.mem_append.2 (.inl ht)
     ·exact List.mem_append.2 (.inr (ih (k + 1) ix (by omega) (by omega) t ht))
   intro ix hix t ht
   exact this Hc.n 0 ix (Nat.zero_le _) (by omega) t ht
  have hval : ∀ {u u' : Value}, VR ρc' u u' → (∀ t ∈ toks u, t ∈ toks v ++ wmk Hc Hc.n 0) → VR ρ' (renV m u) u' := fun h1 h2 => wzx h1 hcellid (hTurns _) (hToks _ h2)
  have hcl2 : ∀ (ix : Nat) (b : CBlk), ix < Hc.n → Hc.get ix = some (.cells b) → ∀ (i : Nat) (x : Value), (bif b.pf then b.cells else wpc m b.cells)[i]? = some x → ∃ u, b.cells[i]? = some u ∧ ∀ v', VR ρc' u v' → VR ρ' x v' := by
   intro ix b hix hb i x hx
   refine wjq (hRc'.wf _ _ hb) hcellid (hTurns _) (hToks _ fun t ht => ?_) i x hx
   rw [← hb] at ht
   exact List.mem_append.2 (.inr (hnewToks ix hix t ht))
  have hblkNo : ∀ (ix s : Nat) (l : Loc) (b b' : ABlk) (t0 f0 : Nat), ix < Hc.n → Hc.get ix = some b → ρc' ix s = some l → wuf m false t0 f0 (some b) = some b' → BRel ρ' w' b' s l := by
   intro ix s l b b' t0 f0 hix hb hl hbb
   have hB := hRc'.blk _ _ _ _ hl hb
   cases b with
   | cells c =>
    simp only [wuf, cond_false, Option.some.injEq] at hbb
    subst hbb
    refine ⟨hB.1, fun hv => ?_⟩
    have hC := hB.2 hv
    obtain ⟨n, s1, s2, s3, s4⟩ := hC.shape
    have q1 := wwl (b := c) (wv := c.wver) (pf := c.pf) (wvh m c) s
    refine ⟨⟨n, s1, fun h => by rw [wvh]; exact s2 h, fun h => ⟨(s3 h).1, by rw [q1]; exact (s3 h).2⟩, s4⟩, ?_, hC.esz, hC.hi⟩
    intro i x hi hx
    obtain ⟨u, hu, hrel⟩ := hcl2 ix c hix hb i x hx
    obtain ⟨x', g1, g2⟩ := hC.vals i u (by rw [q1] at hi; exact hi) hu
    exact ⟨x', g1, hrel x' g2⟩
   | map es =>
    simp only [wuf, Option.some.injEq] at hbb
    subst hbb
    obtain ⟨h0, ms, clock, q1, q2, q3⟩ := hB
    refine ⟨h0, ms, clock, q1, by rw [wnt]; exact q2, ?_⟩
    intro i e mm he hmm2
    rw [wvhb, Option.map_eq_some_iff] at he
    obtain ⟨e0, he0, rfl⟩ := he
    obtain ⟨k1, k2, k3⟩ := q3 i e0 mm he0 hmm2
    obtain ⟨z1, z2⟩ := wsab (List.mem_of_getElem? he0)
    refine ⟨k1, k2, hval k3 fun t ht => List.mem_append.2 (.inr (hnewToks ix hix t ?_))⟩
    rw [hb]; exact z2 t ht
   | tok x y z =>
    simp only [wuf, Option.some.injEq] at hbb
    subst hbb
    exact hB
  have hix_of : ∀ {ix s : Nat} {l : Loc}, ρc' ix s = some l → ix < Hc.n := by
   intro ix s l hl
   rcases Nat.lt_or_ge ix Hc.n with h | h
   ·exact h
   ·rw [hBc' _ _ h] at hl; cases hl
  have hback : ∀ (ix id : Nat), L[ix]? = some id → wde id cs = true → ∃ b, Hc.get ix = some (.cells b) ∧ b.lens ≠ [] := by
   have key : ∀ (cs2 : List (Nat × Bool)) (k : Nat), wlk Hc cs2 k = true → ∀ (j : Nat) (c : Nat × Bool), cs2[j]? = some c → c.2 = true → isOpen (Hc.get (k + j)) = true := by
    intro cs2
    induction cs2 with
    | nil => intro k _ j c h; simp at h
    | cons a cs2 ih =>
     intro k h j c hc h2
     simp only [wlk, Bool.and_eq_true] at h
     cases j with
     | zero => simp at hc; subst hc; have := h.1; rw [h2, cond_true] at this; exact this
     | succ j => have := ih (k + 1) h.2 j c (by simpa using hc) h2; rw [show k + (j + 1) = k + 1 + j by omega]; exact this
   intro ix id h1 h2
   have := key cs 0 hbacks ix _ (hcl.2 ix id h1) h2
   rw [Nat.zero_add] at this
   unfold isOpen at this
   split at this
   ·rename_i b hb
    split at this
    ·cases this
    ·rename_i hne; exact ⟨b, hb, hne⟩
   ·cases this
  have hdisj : ∀ {id ver : Nat} {l : Loc}, ρ id ver = some l → id ∉ L → ∀ (ix s : Nat) (l' : Loc), turned ρ H1 L cs ix s = some l' → l'.block ≠ l.block := by
   intro id ver l h1 h2 ix s l' h3 e
   obtain ⟨id0, ver0, h4, h5⟩ := hρ1 h3
   have := hR.sep _ _ _ _ _ _ h5 h1 e
   exact h2 (by rw [← this]; exact List.mem_of_getElem? h4)
  have hzl : ∀ (b : CBlk) (t0 : Nat), b.lens ≠ [] → (b.lens ++ zeros t0) ≠ [] ∧ (b.lens ++ zeros t0).length - 1 = (b.lens.length - 1) + t0 := by
   intro b t0 h
   obtain ⟨z1, _⟩ := wxv t0
   cases hl : b.lens with
   | nil => exact absurd hl h
   | cons a r => simp [z1]
  have hRel : Rel ρ' B H3 w' := by
   refine ⟨?_, ?_, n2, ?_, ?_, Nat.le_trans hR.base hE.size, ⟨hRc'.fz.cell, ?_⟩⟩
   ·intro id ver l b hl hb
    rcases src hl with ⟨h1, h2, h3⟩ | ⟨ix, s, h1, h2⟩
    ·rcases h2 with h2 | ⟨hc, h2, h4⟩
     ·have hlt : id < H1.n := by
       rcases h3 with h3 | h3
       ·exact h3
       ·have := n2 id b hb; omega
      rw [gOld id h2 hlt] at hb
      refine (hR.blk _ _ _ _ h1 hb).keep hsub (hE.frame _ (hR.bnd _ _ _ h1).2 fun ix s l' h5 => hdisj h1 h2 ix s l' h5)
     ·have h5 := hplace h2
      obtain ⟨c, hc1, hc2⟩ := hback _ _ h5 hc
      rw [gL _ _ h5, hc, hc1] at hb
      simp only [wuf, cond_true, Option.some.injEq] at hb
      subst hb
      obtain ⟨z1, z2⟩ := hzl c (wse (H1.get id)) hc2
      refine ⟨?_, fun hv => ?_⟩
      ·simp only [CBlk.top]; omega
      ·have hv : wse (H1.get id) + c.wver ≤ ver := hv
       omega
    ·have hix := hix_of h1
     rcases h2 with ⟨h2, h3⟩ | ⟨j, hj, rfl, rfl, rfl⟩
     ·rw [gL _ _ h2] at hb
      rcases h3 with ⟨hc, rfl⟩ | ⟨hc, rfl⟩
      ·obtain ⟨c, hc1, hc2⟩ := hback _ _ h2 hc
       rw [hc, hc1] at hb
       simp only [wuf, cond_true, Option.some.injEq] at hb
       subst hb
       obtain ⟨z1, z2⟩ := hzl c (wse (H1.get id)) hc2
       have hB := hRc'.blk _ _ _ _ h1 hc1
       have hs : s ≤ c.top := hB.1
       refine ⟨by simp only [CBlk.top]; unfold CBlk.top at hs; omega, fun hv => ?_⟩
       have hv : wse (H1.get id) + c.wver ≤ wse (H1.get id) + s := hv
       have hC := hB.2 (by omega)
       obtain ⟨n, s1, s2, s3, s4⟩ := hC.shape
       have hlenAt : ∀ (X : CBlk), X.lens = c.lens ++ zeros (wse (H1.get id)) → X.lenAt (wse (H1.get id) + s) = c.lenAt s := by
        intro X hX
        unfold CBlk.lenAt CBlk.top
        unfold CBlk.top at hs
        rw [hX, z2]
        cases hl : c.lens with
        | nil => exact absurd hl hc2
        | cons a r =>
         simp only [List.cons_append]
         rw [hl] at hs
         simp only [List.length_cons, Nat.add_sub_cancel] at hs ⊢
         rw [show r.length + wse (H1.get id) - (wse (H1.get id) + s) = r.length - s by omega]
         rw [List.getD_eq_getElem?_getD, List.getD_eq_getElem?_getD, ← List.cons_append, List.getElem?_append_left (by simp only [List.length_cons]; omega)]
       refine ⟨⟨n, s1, fun h => absurd h z1, fun _ => ⟨(s3 hc2).1, by rw [hlenAt _ rfl]; exact (s3 hc2).2⟩, fun i hi hi2 => s4 i (Nat.le_trans (Nat.le_max_right _ _) hi) hi2⟩, ?_, hC.esz, fun hm => Nat.le_trans (hC.hi hm) (Nat.le_max_right _ _)⟩
       intro i x hi hx
       obtain ⟨u, hu, hrel⟩ := hcl2 ix c hix hc1 i x hx
       obtain ⟨x', g1, g2⟩ := hC.vals i u (by rw [hlenAt _ rfl] at hi; exact hi) hu
       exact ⟨x', g1, hrel x' g2⟩
      ·cases hg : Hc.get ix with
       | none => rw [hg] at hb; cases hb
       | some bb =>
        rw [hg, hc] at hb
        exact hblkNo ix ver l bb b _ _ hix hg h1 hb
     ·rw [gNew j hj] at hb
      cases hg : Hc.get (L.length + j) with
      | none => rw [hg] at hb; cases hb
      | some bb =>
       rw [hg] at hb
       exact hblkNo _ _ l bb b _ _ hix hg h1 hb
   ·intro id c hc
    have wfNo : ∀ ix bb t0 f0, Hc.get ix = some bb → wuf m false t0 f0 (some bb) = some (.cells c) → c.WF := by
     intro ix bb t0 f0 hg hb
     cases bb with
     | cells b =>
      simp only [wuf, cond_false, Option.some.injEq, ABlk.cells.injEq] at hb
      subst hb
      have hwf := hRc'.wf _ _ hg
      exact ⟨fun n hn => by rw [wvh]; exact hwf.lens n hn, hwf.wver, fun hp => wok hwf hp⟩
     | map es => cases hb
     | tok x y z => cases hb
    by_cases h1 : id < H1.n
    ·by_cases h2 : id ∈ L
     ·have h3 := hplace h2
      rw [gL _ _ h3] at hc
      cases hcm : wde id cs with
      | false =>
       rw [hcm] at hc
       cases hg : Hc.get (idxOf id L 0) with
       | none => rw [hg] at hc; cases hc
       | some bb => rw [hg] at hc; exact wfNo _ _ _ _ hg hc
      | true =>
       obtain ⟨b, hb1, hb2⟩ := hback _ _ h3 hcm
       rw [hcm, hb1] at hc
       simp only [wuf, cond_true, Option.some.injEq, ABlk.cells.injEq] at hc
       subst hc
       have hwf := hRc'.wf _ _ hb1
       obtain ⟨z1, z2⟩ := hzl b (wse (H1.get id)) hb2
       refine ⟨fun n hn => ?_, ?_, fun hp => wok hwf hp⟩
       ·simp only at hn ⊢
        rw [wvh]
        rcases List.mem_append.1 hn with h | h
        ·exact hwf.lens n h
        ·rw [(wxv _).2 n h]; exact Nat.zero_le _
       ·simp only [CBlk.top]
        have := hwf.wver
        unfold CBlk.top at this
        show wse (H1.get id) + b.wver ≤ _
        omega
     ·rw [gOld id h2 h1] at hc
      exact hR.wf _ _ hc
    ·have hlt := n2 id _ hc
     obtain ⟨j, rfl⟩ : ∃ j, id = H1.n + j := ⟨id - H1.n, by omega⟩
     rw [gNew j (by omega)] at hc
     cases hg : Hc.get (L.length + j) with
     | none => rw [hg] at hc; cases hc
     | some bb => rw [hg] at hc; exact wfNo _ _ _ _ hg hc
   ·intro id ver l id' ver' l' h1 h2 e
    have mix : ∀ {id ver l id' l' ix s}, ρ id ver = some l → ρc' ix s = some l' → l.block = l'.block → ((L[ix]? = some id') ∨ ∃ j, j < Hc.n - L.length ∧ ix = L.length + j ∧ id' = H1.n + j) → id = id' := by
     intro id ver l id' l' ix s g1 g2 g3 g4
     rcases hE.fresh ix s l' g2 with g5 | ⟨ix0, ver0, l0, g5, g6⟩
     ·have := (hR.bnd _ _ _ g1).2; omega
     ·obtain ⟨id0, ver1, g7, g8⟩ := hρ1 g5
      have g9 := hR.sep _ _ _ _ _ _ g8 g1 (g6.trans g3.symm)
      have g10 := hE.pin ix0 ver0 l0 (wgh g7) g5
      have g11 := hRc'.sep _ _ _ _ _ _ g10 g2 g6
      subst g11
      rcases g4 with g4 | ⟨j, hj, rfl, _⟩
      ·rw [g7] at g4; cases g4; exact g9.symm
      ·have := wgh g7; omega
    rcases src h1 with ⟨g1, _, _⟩ | ⟨ix, s, g1, g2⟩ <;> rcases src h2 with ⟨g3, _, _⟩ | ⟨ix', s', g3, g4⟩
    ·exact hR.sep _ _ _ _ _ _ g1 g3 e
    ·refine mix g1 g3 e ?_
     rcases g4 with ⟨g4, _⟩ | ⟨j, a1, a2, a3, _⟩
     ·exact .inl g4
     ·exact .inr ⟨j, a1, a2, a3⟩
    ·refine (mix g3 g1 e.symm ?_).symm
     rcases g2 with ⟨g4, _⟩ | ⟨j, a1, a2, a3, _⟩
     ·exact .inl g4
     ·exact .inr ⟨j, a1, a2, a3⟩
    ·have := hRc'.sep _ _ _ _ _ _ g1 g3 e
     subst this
     rcases g2 with ⟨g2, _⟩ | ⟨j, a1, a2, a3, _⟩ <;> rcases g4 with ⟨g4, _⟩ | ⟨j', c1, c2, c3, _⟩
     ·rw [g2] at g4; cases g4; rfl
     ·have := wgh g2; omega
     ·have := wgh g4; omega
     ·omega
   ·intro id ver l h1
    rcases src h1 with ⟨g1, _, _⟩ | ⟨ix, s, g1, _⟩
    ·have := hR.bnd _ _ _ g1
     have := hE.size
     omega
    ·exact hRc'.bnd _ _ _ g1
   ·intro id ver l i x b hl hx hb
    have hx : ρc'.cell l.block i = some x := hx
    have frNo : ∀ bb t0 f0, wuf m false t0 f0 (some bb) = some b → wnu bb l i → wnu b l i := by
     intro bb t0 f0 h1 h2
     cases bb with
     | cells c => simp only [wuf, cond_false, Option.some.injEq] at h1; subst h1; exact h2
     | map es => exact h2.elim
     | tok x y z => simp only [wuf, Option.some.injEq] at h1; subst h1; exact h2
    rcases src hl with ⟨h1, h2, h3⟩ | ⟨ix, s, h1, h2⟩
    ·rcases h2 with h2 | ⟨hc, h2, h4⟩
     ·have hlt : id < H1.n := by
       rcases h3 with h3 | h3
       ·exact h3
       ·have := n2 id b hb; omega
      rw [gOld id h2 hlt] at hb
      rcases hE.cells _ _ _ hx with g1 | g1 | ⟨ix0, s0, l0, g1, g2⟩
      ·exact hR.fz.sep _ _ _ _ _ _ h1 g1 hb
      ·have := (hR.bnd _ _ _ h1).2; omega
      ·exact absurd g2 (hdisj h1 h2 ix0 s0 l0 g1)
     ·have h5 := hplace h2
      obtain ⟨c, hc1, hc2⟩ := hback _ _ h5 hc
      obtain ⟨b1, hb1, _⟩ := htop h2 hc
      rw [gL _ _ h5, hc, hc1, hb1] at hb
      simp only [wuf, cond_true, Option.some.injEq] at hb
      subst hb
      show i < Nat.max _ _
      rcases hE.cells _ _ _ hx with g1 | g1 | ⟨ix0, s0, l0, g1, g2⟩
      ·have := hR.fz.sep _ _ _ _ _ _ h1 g1 hb1
       exact Nat.lt_of_lt_of_le this (Nat.le_max_left _ _)
      ·have := (hR.bnd _ _ _ h1).2; omega
      ·obtain ⟨id0, ver1, g7, g8⟩ := hρ1 g1
       have g9 := hR.sep _ _ _ _ _ _ g8 h1 g2
       subst g9
       have g10 := hE.pin ix0 s0 l0 (wgh g7) g1
       have g11 : ix0 = idxOf id0 L 0 := (hplace' g7).symm
       rw [← g11] at hc1
       rw [← g2] at hx
       have := hRc'.fz.sep _ _ _ _ _ _ g10 hx hc1
       exact Nat.lt_of_lt_of_le this (Nat.le_max_right _ _)
    ·rcases h2 with ⟨h2, h3⟩ | ⟨j, hj, rfl, rfl, rfl⟩
     ·rw [gL _ _ h2] at hb
      rcases h3 with ⟨hc, rfl⟩ | ⟨hc, rfl⟩
      ·obtain ⟨c, hc1, hc2⟩ := hback _ _ h2 hc
       rw [hc, hc1] at hb
       simp only [wuf, cond_true, Option.some.injEq] at hb
       subst hb
       have := hRc'.fz.sep _ _ _ _ _ _ h1 hx hc1
       exact Nat.lt_of_lt_of_le this (Nat.le_max_right _ _)
      ·cases hg : Hc.get ix with
       | none => rw [hg] at hb; cases hb
       | some bb => rw [hg, hc] at hb; exact frNo bb _ _ hb (hRc'.fz.sep _ _ _ _ _ _ h1 hx hg)
     ·rw [gNew j hj] at hb
      cases hg : Hc.get (L.length + j) with
      | none => rw [hg] at hb; cases hb
      | some bb => rw [hg] at hb; exact frNo bb _ _ hb (hRc'.fz.sep _ _ _ _ _ _ h1 hx hg)
  refine ⟨ρ', hval hv fun t ht => List.mem_append.2 (.inl ht), hRel, ?_⟩
  refine ⟨hsub, hE.size, ?_, ?_, ?_, by omega, ?_, ?_, hE.same, ?_⟩
  ·intro b hb himg
   refine hE.frame b hb fun ix s l h1 e => ?_
   obtain ⟨id, ver, h2, h3⟩ := hρ1 h1
   obtain ⟨bb, hbb⟩ := wte hall id (List.mem_of_getElem? h2)
   exact himg id ver l (by rw [hbb]; rfl) h3 e
  ·intro id ver l h1 h0
   rcases src h1 with ⟨g1, _, _⟩ | ⟨ix, s, g1, g2⟩
   ·rw [h0] at g1; cases g1
   ·rcases hE.fresh ix s l g1 with g3 | ⟨ix0, s0, l0, g3, g4⟩
    ·exact .inl g3
    ·obtain ⟨id0, ver1, g7, g8⟩ := hρ1 g3
     have g10 := hE.pin ix0 s0 l0 (wgh g7) g3
     have g11 := hRc'.sep _ _ _ _ _ _ g10 g1 g4
     subst g11
     rcases g2 with ⟨g2, _⟩ | ⟨j, hj, rfl, _, _⟩
     ·rw [g7] at g2
      cases g2
      obtain ⟨bb, hbb⟩ := wte hall _ (List.mem_of_getElem? g7)
      exact .inr ⟨_, l0, by rw [hbb]; rfl, g8, g4⟩
     ·have := wgh g7; omega
  ·intro id ver l h1 h0
   rcases src h1 with ⟨g1, _, _⟩ | ⟨ix, s, g1, g2⟩
   ·rw [h0] at g1; cases g1
   ·rcases g2 with ⟨g2, _⟩ | ⟨j, hj, rfl, rfl, rfl⟩
    ·obtain ⟨bb, hbb⟩ := wte hall id (List.mem_of_getElem? g2)
     obtain ⟨s0, l0, g3⟩ := hE.dom ix s l (wgh g2) g1
     obtain ⟨id0, ver1, g7, g8⟩ := hρ1 g3
     rw [g2] at g7
     cases g7
     exact .inr ⟨by rw [hbb]; rfl, ver1, l0, g8⟩
    ·exact .inl ⟨by omega, by omega⟩
  ·intro id h1
   by_cases h2 : id ∈ L
   ·have h3 := hplace h2
    rw [gL _ _ h3]
    have h4 := hsomes (idxOf id L 0) (by rw [hcl.1]; exact wgh h3)
    rw [Nat.zero_add] at h4
    obtain ⟨bb, hbb⟩ := Option.isSome_iff_exists.1 h4
    rw [hbb]
    cases bb with
    | cells c => simp only [wuf]; cases wde id cs <;> rfl
    | map es => rfl
    | tok x y z => rfl
   ·obtain ⟨bb, hbb⟩ := Option.isSome_iff_exists.1 h1
    rw [gOld id h2 (hR.low id bb hbb)]
    exact h1
  ·intro id h1
   by_cases h2 : id < H1.n
   ·by_cases h3 : id ∈ L
    ·obtain ⟨bb, hbb⟩ := wte hall id h3
     exact .inl (by rw [hbb]; rfl)
    ·rw [gOld id h3 h2] at h1; exact .inl h1
   ·exact .inr (by omega)
  ·intro b i x hx
   rcases hE.cells b i x hx with g1 | g1 | ⟨ix, s, l, g1, g2⟩
   ·exact .inl g1
   ·exact .inr (.inl g1)
   ·obtain ⟨id, ver, h2, h3⟩ := hρ1 g1
    obtain ⟨bb, hbb⟩ := wte hall id (List.mem_of_getElem? h2)
    exact .inr (.inr ⟨id, ver, l, by rw [hbb]; rfl, h3, g2⟩)
theorem woqb (P : Program) (H : AH) : ∀ (d : Nat) (l l2 : List Value) (fr : Frs), wwc P H d l = some (l2, fr) → wih fr := by
 intro d
 induction d with
 | zero => intro l l2 fr h; cases h
 | succ d ih =>
  have one : ∀ v u f, wqd P H (wwc P H d) v = some (u, f) → wih f := by
   intro v u f h
   unfold wqd at h
   split at h
   ·cases h; exact wnd
   ·cases h; exact wnd
   ·rename_i a n c
    unfold wam at h
    split at h
    ·rename_i b hb
     cases hq : (wiab H (wdf P b) (n + 1) a c && rdOk b (aver a) (a.off + (n + 1) * wdf P b)) with
     | false => rw [hq, cond_false] at h; cases h
     | true =>
      rw [hq, cond_true] at h
      have fin : ∀ cs g, wih g → (bif wcb cs && wmb a.block then some (FL (n + 1) cs, (a.block, a.off + (n + 1) * wdf P b) :: g) else none) = some (u, f) → wih f := by
       intro cs g hg h
       cases hq2 : (wcb cs && wmb a.block) with
       | false => rw [hq2, cond_false] at h; cases h
       | true =>
        rw [hq2, cond_true] at h
        cases h
        simp only [Bool.and_eq_true] at hq2
        intro p hp
        simp only [List.mem_cons] at hp
        rcases hp with rfl | hp
        ·exact hq2.2
        ·exact hg p hp
      cases hp : b.pf with
      | true => rw [hp, cond_true] at h; exact fin _ _ wnd h
      | false =>
       rw [hp, cond_false] at h
       split at h
       ·rename_i cs g hs; exact fin cs g (ih _ _ _ hs) h
       ·cases h
    ·cases h
   ·split at h
    ·rename_i hs; cases h; exact ih _ _ _ hs
    ·cases h
   ·split at h
    ·rename_i hs; cases h; exact ih _ _ _ hs
    ·cases h
   ·split at h
    ·rename_i hs; cases h; exact ih _ _ _ hs
    ·cases h
   ·cases h; exact wnd
   ·split at h
    ·rename_i hs1 hs2
     cases h
     intro x hx
     rcases List.mem_append.1 hx with hx | hx
     ·exact ih _ _ _ hs1 x hx
     ·exact ih _ _ _ hs2 x hx
    ·cases h
   ·cases h; exact wnd
  intro l
  induction l with
  | nil => intro l2 fr h; cases h; exact wnd
  | cons v l ihl =>
   intro l2 fr h
   have e : wwc P H (d + 1) (v :: l) = wmr (one2 (wqd P H (wwc P H d) v)) (wwc P H (d + 1) l) := rfl
   rw [e] at h
   cases hs : wqd P H (wwc P H d) v with
   | none => rw [hs] at h; simp [one2, wmr] at h
   | some p =>
    obtain ⟨u, f⟩ := p
    cases hr : wwc P H (d + 1) l with
    | none => rw [hs, hr] at h; simp [one2, wmr] at h
    | some q =>
     obtain ⟨l3, g⟩ := q
     rw [hs, hr] at h
     simp only [one2, wmr, Option.some.injEq, Prod.mk.injEq] at h
     obtain ⟨_, rfl⟩ := h
     intro x hx
     rcases List.mem_append.1 hx with hx | hx
     ·exact one _ _ _ hs x hx
     ·exact ihl _ _ hr x hx
theorem wcy (H : AH) : ∀ l : Frs, (raise H l).n = H.n := by
 intro l
 induction l with
 | nil => rfl
 | cons p l ih =>
  rw [wwv]
  unfold frz1
  split
  ·rw [AH.set_eq]; exact ih
  ·exact ih
theorem setO_n (H : AH) (id : Nat) (b : Option ABlk) : (setO H id b).n = H.n := by
 cases b with
 | none => rfl
 | some b => rw [setO, AH.set_eq]
theorem wpeb (m : Nm) (H1 Hc : AH) : ∀ (cs : List (Nat × Bool)) (ix : Nat) (H : AH), (wui m H1 Hc cs ix H).n = H.n := by
 intro cs
 induction cs with
 | nil => intro ix H; rfl
 | cons c cs ih => intro ix H; simp only [wui]; rw [ih, setO_n]
theorem news_n (m : Nm) (Hc : AH) : ∀ (d k : Nat) (H : AH), (news m Hc k d H).n = H.n + d := by
 intro d
 induction d with
 | zero => intro k H; rfl
 | succ d ih =>
  intro k H
  have e : news m Hc k (d + 1) H = news m Hc (k + 1) d (addO H (wuf m false 0 0 (Hc.get k))) := rfl
  rw [e, ih, wit]; omega
theorem wwhb : ∀ (l : List (Option ABlk)) (H : AH), (wdg l H).n = H.n + l.length := by
 intro l
 induction l with
 | nil => intro H; rfl
 | cons b l ih => intro H; rw [wjt, ih, wit, List.length_cons]; omega
theorem wuab (H : AH) (m : Nm) : ∀ cs, (wil H m cs).length = cs.length := by
 intro cs
 induction cs with
 | nil => rfl
 | cons c cs ih => simp [wil, ih]
theorem pins_le (p : Nat) : ∀ (L : List Nat) (i : Nat), pins p L i = true → p ≤ i + L.length := by
 intro L
 induction L with
 | nil => intro i h; simp only [pins, Nat.ble_eq] at h; simpa using h
 | cons a L ih =>
  intro i h
  simp only [pins] at h
  cases hb : Nat.blt i p with
  | false =>
   have : ¬ i < p := fun h => by rw [show Nat.blt i p = true from Nat.ble_eq_true_of_le h] at hb; cases hb
   omega
  | true =>
   rw [hb, cond_true] at h
   simp only [Bool.and_eq_true] at h
   have := ih (i + 1) h.2
   simp only [List.length_cons]; omega
theorem wxhb {H : AH} {p : Nat} {vs : List Value} {N : Nrm} (h : wyd H p vs = some N) : p ≤ N.H.n := by
 unfold wyd wkab at h
 split at h
 ·rename_i L _
  cases hq : (wiq L && (pins p L 0 && hasAll H L && (wyo L (wxc vs ++ wgb H L) && (wmb L.length && wdt (wrd H (wxc vs ++ wgb H L) p L 0) (wen vs ++ wmf H L))))) with
  | false => rw [hq, cond_false] at h; cases h
  | true =>
   rw [hq, cond_true] at h
   cases h
   simp only [Bool.and_eq_true] at hq
   have := pins_le p L 0 hq.2.1.1
   simp only
   rw [wwhb, wuab, (wnk _ _ _ _ _).1]
   show p ≤ 0 + L.length
   omega
 ·cases h
theorem wqeb {H : AH} {p : Nat} {vs : List Value} {N : Nrm} (h : wyd H p vs = some N) : wiq N.L = true ∧ hasAll H N.L = true := by
 unfold wyd wkab at h
 split at h
 ·rename_i L _
  cases hq : (wiq L && (pins p L 0 && hasAll H L && (wyo L (wxc vs ++ wgb H L) && (wmb L.length && wdt (wrd H (wxc vs ++ wgb H L) p L 0) (wen vs ++ wmf H L))))) with
  | false => rw [hq, cond_false] at h; cases h
  | true =>
   rw [hq, cond_true] at h
   cases h
   simp only [Bool.and_eq_true] at hq
   exact ⟨hq.1, hq.2.1.2⟩
 ·cases h
theorem eqF_true {a b : Int} (h : eqF a b = true) : a = b := by rw [wuz] at h; simpa using h
mutual
theorem wdy : ∀ (a b : Value), beqV a b = true → a = b
 | .bool a, b, h => by cases b <;> simp [beqV] at h; rw [h]
 | .int k a, b, h => by
  cases b <;> simp only [beqV, Bool.and_eq_true] at h <;> first | (cases h; done) | skip
  rw [wgi h.1, eqF_true h.2]
 | .float k a, b, h => by cases b <;> simp [beqV] at h; rw [h.1, h.2]
 | .complex k a c, b, h => by cases b <;> simp [beqV] at h; rw [h.1, h.2.1, h.2.2]
 | .string a, b, h => by
  cases b <;> simp [beqV] at h
  rename_i s
  congr 1
  cases a; cases s
  simp_all
 | .pointer none, b, h => by cases b <;> first | (simp [beqV] at h; done) | (rename_i x; cases x <;> first | rfl | simp [beqV] at h)
 | .pointer (some a), b, h => by
  cases b <;> first | (simp [beqV] at h; done) | skip
  rename_i x
  cases x <;> simp [beqV] at h
  rename_i c
  cases a; cases c; simp_all
 | .slice none l c, b, h => by
  cases b <;> first | (simp [beqV] at h; done) | skip
  rename_i x _ _
  cases x <;> simp [beqV] at h
  simp_all
 | .slice (some a) l c, b, h => by
  cases b <;> first | (simp [beqV] at h; done) | skip
  rename_i x _ _
  cases x <;> simp [beqV] at h
  rename_i d
  cases a; cases d; simp_all
 | .map a, b, h => by cases b <;> simp [beqV] at h; rw [h]
 | .chan a, b, h => by cases b <;> simp [beqV] at h
 | .nilFunc, b, h => by cases b <;> first | rfl | simp [beqV] at h
 | .nilIface, b, h => by cases b <;> first | rfl | simp [beqV] at h
 | .func f a c, b, h => by
  cases b <;> first | (simp [beqV] at h; done) | skip
  simp only [beqV, Bool.and_eq_true, beq_iff_eq] at h
  rw [h.1, wey _ _ h.2.1, wey _ _ h.2.2]
 | .iface t a, b, h => by
  cases b <;> first | (simp [beqV] at h; done) | skip
  simp only [beqV, Bool.and_eq_true, Nat.beq_eq] at h
  rw [h.1, wdy _ _ h.2]
 | .agg a, b, h => by
  cases b <;> first | (simp [beqV] at h; done) | skip
  simp only [beqV] at h
  rw [wey _ _ h]
 | .tuple a, b, h => by
  cases b <;> first | (simp [beqV] at h; done) | skip
  simp only [beqV] at h
  rw [wey _ _ h]
theorem wey : ∀ (a b : Array Value), beqA a b = true → a = b
 | ⟨a⟩, ⟨b⟩, h => by simp only [beqA] at h; rw [wfy _ _ h]
theorem wfy : ∀ (a b : List Value), beqL a b = true → a = b
 | [], b, h => by cases b <;> first | rfl | simp [beqL] at h
 | a :: r, b, h => by
  cases b <;> first | (simp [beqL] at h; done) | skip
  simp only [beqL, Bool.and_eq_true] at h
  rw [wdy _ _ h.1, wfy _ _ h.2]
end
theorem wpqb : ∀ (a b : List (Value × Value)), beqP a b = true → a = b
 | [], b, h => by cases b <;> first | rfl | simp [beqP] at h
 | a :: r, b, h => by
  cases b <;> first | (simp [beqP] at h; done) | skip
  simp only [beqP, Bool.and_eq_true] at h
  rw [wpqb _ _ h.2.2]
  congr 1
  exact Prod.ext (wdy _ _ h.1) (wdy _ _ h.2.1)
theorem beqB_eq {a b : ABlk} (h : beqB a b = true) : a = b := by
 cases a with
 | cells a =>
  cases b with
  | cells b =>
   simp only [beqB, beqC, Bool.and_eq_true, Nat.beq_eq, beq_iff_eq] at h
   obtain ⟨h1, h2, h3, h4, h5, h6, h7, h8⟩ := h
   cases a; cases b
   simp only at *
   rw [wfy _ _ h1, h2, h3, h4, h5, h6, h7, h8]
  | tok a b c => simp [beqB] at h
  | map b => simp [beqB] at h
 | map a =>
  cases b with
  | cells b => simp [beqB] at h
  | map b => simp only [beqB] at h; rw [wpqb _ _ h]
  | tok a b c => simp [beqB] at h
 | tok x y z =>
  cases b with
  | cells b => simp [beqB] at h
  | map b => simp [beqB] at h
  | tok a b c => simp only [beqB, Bool.and_eq_true, Nat.beq_eq] at h; rw [h.1, h.2.1, h.2.2]
theorem wvab {H1 H3 : AH} {L : List Nat} {id : Nat} (hL : id ∈ L) (h : id ∉ changed H1 H3 L) : H3.get id = H1.get id := by
 unfold changed at h
 rw [List.mem_filter] at h
 have : wpab (H1.get id) (H3.get id) = true := by
  cases hq : wpab (H1.get id) (H3.get id) with
  | true => rfl
  | false => exact absurd ⟨hL, by rw [hq]; rfl⟩ h
 unfold wpab at this
 split at this
 ·rename_i a b e1 e2
  rw [e1, e2, beqB_eq this]
 ·cases this
theorem wreb (m : Nm) (H1 Hc : AH) : ∀ (cs : List (Nat × Bool)) (ix : Nat) (H : AH), (∀ c ∈ cs, wmb c.1 = true) → ∀ id, (∀ c ∈ cs, c.1 ≠ id) → (wui m H1 Hc cs ix H).get id = H.get id := by
 intro cs
 induction cs with
 | nil => intro ix H _ id _; rfl
 | cons c cs ih =>
  intro ix H hk id hid
  simp only [wui]
  rw [ih _ _ (fun c hc => hk c (by simp [hc])) id fun c hc => hid c (by simp [hc])]
  unfold setO
  split
  ·rw [AH.get_set (hk c (by simp)), if_neg fun e => hid c (by simp) e.symm]
  ·rfl
theorem wqqb (m : Nm) (H1 Hc : AH) : ∀ (cs : List (Nat × Bool)) (ix : Nat) (H : AH), (∀ c ∈ cs, wmb c.1 = true ∧ c.1 < H.n) → Low H → Low (wui m H1 Hc cs ix H) := by
 intro cs
 induction cs with
 | nil => intro ix H _ h; exact h
 | cons c cs ih =>
  intro ix H hk hl
  simp only [wui]
  have hc := hk c (by simp)
  refine ih _ _ (fun c hc => by rw [setO_n]; exact hk c (by simp [hc])) ?_
  unfold setO
  split
  ·intro id b hb
   rw [AH.get_set hc.1] at hb
   rw [AH.set_eq]
   simp only
   split at hb
   ·rename_i e; rw [e]; exact hc.2
   ·exact hl id b hb
  ·exact hl
theorem wwab {H1 : AH} (hlow : Low H1) {vs : List Value} {N : Nrm} (hN : wyd H1 0 vs = some N) {v : Value} {Hc : AH} {fr : Frs} {cs : List (Nat × Bool)} (hcs : ∀ c ∈ cs, c.1 ∈ N.L) {v2 : Value} {nb : Option ABlk} {eff : Bool} {H3 : AH} {wr : List Nat}
  (hm : wrh H1 fr N.L cs v Hc = .did v2 nb eff H3 wr) : (∀ id, id ∉ N.L → id < H1.n → H3.get id = H1.get id) ∧ Low H3 := by
 obtain ⟨_, hall⟩ := wqeb hN
 unfold wrh at hm
 cases hq : (wet N.L && (Nat.ble N.L.length Hc.n && (wmb (H1.n + Hc.n) && (wft N.L.length (wqh H1 cs) (toks v ++ wmk Hc Hc.n 0) && (wlk Hc cs 0 && hasAll Hc (upto N.L.length)))))) with
 | false => rw [hq, cond_false] at hm; cases hm
 | true =>
  rw [hq, cond_true] at hm
  simp only [Bool.and_eq_true, Nat.ble_eq] at hq
  obtain ⟨hkeys, hle, hkey, _⟩ := hq
  cases hm
  have hkL : ∀ c ∈ cs, wmb c.1 = true ∧ c.1 < H1.n := by
   intro c hc
   obtain ⟨b, hb⟩ := wte hall c.1 (hcs c hc)
   exact ⟨wcf hkeys _ (hcs c hc), hlow _ _ hb⟩
  obtain ⟨_, nlow, n3, _⟩ := wtab (wbm H1.n N.L.length N.L (wqh H1 cs)) Hc (Hc.n - N.L.length) N.L.length (wui (wbm H1.n N.L.length N.L (wqh H1 cs)) H1 Hc cs 0 H1) (by rw [wpeb]; exact wbh hkey (by omega)) (wqqb _ _ _ _ _ _ hkL hlow)
  refine ⟨fun id h1 h2 => ?_, nlow⟩
  rw [n3 id (by rw [wpeb]; exact h2), wreb _ _ _ _ _ _ (fun c hc => (hkL c hc).1) id fun c hc e => h1 (by rw [← e]; exact hcs c hc)]
theorem wseb {H1 : AH} {L : List Nat} {v : Value} {Hc : AH} {fr : Frs} {cs : List (Nat × Bool)} {v2 : Value} {nb : Option ABlk} {eff : Bool} {H3 : AH} {wr : List Nat}
  (hm : wrh H1 fr L cs v Hc = .did v2 nb eff H3 wr) : nb = none ∧ eff = true ∧ wr = changed H1 H3 L ++ wjl fr ∧ H1.n ≤ H3.n := by
 unfold wrh at hm
 cases hq : (wet L && (Nat.ble L.length Hc.n && (wmb (H1.n + Hc.n) && (wft L.length (wqh H1 cs) (toks v ++ wmk Hc Hc.n 0) && (wlk Hc cs 0 && hasAll Hc (upto L.length)))))) with
 | false => rw [hq, cond_false] at hm; cases hm
 | true =>
  rw [hq, cond_true] at hm
  cases hm
  exact ⟨rfl, rfl, rfl, by rw [news_n, wpeb]; omega⟩
def wyhb (P : Program) (G : Nat → Option (List Value)) (rec : Rec) : Prop := ∀ f args H o H', rec (.call f args) H = some (o, H') → ∃ v, o = .val v ∧ wby P G f args H v H'
theorem vrl_mem {ρ : Ren} {l l' : List Value} (h : VRL ρ l l') {ρ' : Ren} {g : Value → Value} (hg : ∀ v v', v ∈ l → VR ρ v v' → VR ρ' (g v) v') : VRL ρ' (l.map g) l' := by
 refine ⟨by simpa using h.1, ?_⟩
 intro i v v' e e'
 rw [List.getElem?_map, Option.map_eq_some_iff] at e
 obtain ⟨u, hu, rfl⟩ := e
 exact hg u v' (List.mem_of_getElem? hu) (h.2 i u v' hu e')
theorem wrqb (m : Nm) : ∀ l : List Value, wpc m l = l.map (renV m) := by
 intro l
 induction l with
 | nil => rfl
 | cons a l ih => simp [wpc, ih]
def wqk (P : Program) (G : Nat → Option (List Value)) (f : FuncId) (a : List Value) (v : Value) : Prop :=
 ∀ (ρ : Ren) (w : World) (args' : Array Value), (∀ b i x, ρ.cell b i = some x → w.cell? ⟨b, i, none⟩ = some x) → GOK G ρ → VRL ρ a args'.toList →
  Calls P f args' w fun e w' => ∃ ρ' v', e = .returned v' ∧ VR ρ' v v' ∧ (∀ id ver, ρ' id ver = ρ id ver) ∧ (∀ b i x, ρ.cell b i = some x → ρ'.cell b i = some x) ∧ (∀ b i x, ρ'.cell b i = some x → ρ.cell b i = some x ∨ w.heap.size ≤ b) ∧
   (∀ b i x, ρ'.cell b i = some x → w'.cell? ⟨b, i, none⟩ = some x) ∧ w.heap.size ≤ w'.heap.size ∧ (∀ b : Nat, b < w.heap.size → w'.heap[b]? = w.heap[b]?) ∧ w'.os = w.os ∧ w'.output = w.output
def weg (P : Program) (G : Nat → Option (List Value)) (know : FuncId → Option (List Value → Option Value)) : Prop := ∀ f g a v, know f = some g → g a = some v → wqk P G f a v
theorem wpkb {G : Nat → Option (List Value)} {f : FuncId} {args a : List Value} {H : AH} {v : Value} {fr : Frs} (hk : wih fr)
  (hargs : ∀ (ρ : Ren) (B : Nat) (w : World) (args' : List Value), Rel ρ B H w → VRL ρ args args' → VRL (ρ.frz H w fr) a args') (hv : wqk P G f a v) : CallOK P G f args H v (raise H fr) (wjl fr) := by
 refine ⟨by rw [wcy]; exact Nat.le_refl _, fun hlow => ?_, fun ρ B w args' hR hG hA hfree => ?_⟩
 ·obtain ⟨_, r2, _, r4, _⟩ := wlq hlow fr hk
  exact ⟨r2, fun id hid _ => r4 id hid⟩
 ·have hp := wot (w := w) hR hk
  refine (hv (ρ.frz H w fr) w args' hp.rel.fz.cell (hG.cells (fun b i v h => (wpk ρ H w fr).cell b i v h)) (hargs ρ B w _ hR hA)).mono ?_
  rintro e w' ⟨ρ', v', rfl, h1, h2, h3, h4, h5, h6, h7, h8, h9⟩
  have hsub : Sub (ρ.frz H w fr) ρ' := ⟨fun id ver l hl => by rw [h2]; exact hl, h3⟩
  refine ⟨ρ', v', rfl, h1, hp.trans ⟨⟨?_, hp.rel.wf, hp.rel.low, ?_, ?_, Nat.le_trans hp.rel.base h6, ⟨h5, ?_⟩⟩, ?_⟩ hfree⟩
  ·intro id ver l b hl hb
   rw [h2] at hl
   exact (hp.rel.blk id ver l b hl hb).keep hsub (h7 _ (hp.rel.bnd _ _ _ hl).2)
  ·intro id ver l id' ver' l' hl hl' he
   rw [h2] at hl hl'
   exact hp.rel.sep _ _ _ _ _ _ hl hl' he
  ·intro id ver l hl
   rw [h2] at hl
   have := hp.rel.bnd _ _ _ hl
   omega
  ·intro id ver l i x b hl hx hb
   rw [h2] at hl
   rcases h4 _ _ _ hx with h | h
   ·exact hp.rel.fz.sep id ver l i x b hl h hb
   ·have := (hp.rel.bnd _ _ _ hl).2
    omega
  ·refine ⟨hsub, h6, fun b hb _ => h7 b hb, fun id ver l h h' => (by rw [h2, h'] at h; cases h), fun id ver l h h' => (by rw [h2, h'] at h; cases h), Nat.le_refl _, fun _ h => h, fun _ h => .inl h, ⟨h8, h9⟩, fun b i x hx => ?_⟩
   rcases h4 b i x hx with h | h
   ·exact .inl h
   ·exact .inr (.inl h)
theorem wzhb {cfg : Cfg} {rec : Rec} {G : Nat → Option (List Value)} (hrec : wyhb P G rec) (wog : weg P G cfg.know) : CSOK P G (callS P cfg rec) := by
 intro f args H v nb eff H' wr h
 have main : ∀ (a : List Value) (fr : Frs), wih fr → (∀ (ρ : Ren) (B : Nat) (w : World) (args' : List Value), Rel ρ B H w → VRL ρ args args' → VRL (ρ.frz H w fr) a args') → (∀ ρ B w, Rel ρ B H w → True) →
   wtv rec f H (raise H fr) fr a (wyd (raise H fr) 0 a) = .did v nb eff H' wr → nb = none ∧ eff = true ∧ CallOK P G f args H v H' wr := by
  intro a fr hk hargs _ h
  cases hN : wyd (raise H fr) 0 a with
  | none => rw [hN] at h; cases h
  | some N =>
   rw [hN] at h
   simp only [wtv] at h
   cases hr : rec (.call f (wpc N.m a)) N.H with
   | none => rw [hr] at h; cases h
   | some r =>
    obtain ⟨o, Hc⟩ := r
    obtain ⟨v0, rfl, hn0, hcall⟩ := hrec _ _ _ _ _ hr
    rw [hr] at h
    simp only [wzo] at h
    have run : ∀ (ρ : Ren) (B : Nat) (w : World) (args' : Array Value), Rel ρ B H w → GOK G ρ → VRL ρ args args'.toList →
      Rel (ρ.frz H w fr) B (raise H fr) w ∧ Post ρ B H w (ρ.frz H w fr) (raise H fr) w ∧
      Calls P f args' w fun e w' => ∃ ρ' v', e = .returned v' ∧ VR ρ' v0 v' ∧ Rel ρ' B Hc w' ∧ Bd ρ' Hc ∧ Ext2 N.H.n (turned (ρ.frz H w fr) (raise H fr) N.L (wrd (raise H fr) (wxc a ++ wgb (raise H fr) N.L) 0 N.L 0)) N.H w ρ' Hc w' := by
     intro ρ B w args' hR hG hA
     have hp := wot hR hk
     obtain ⟨q1, q2, q3, q4, _⟩ := wvn hN hp.rel
     refine ⟨hp.rel, hp, hcall _ B w args' q1 (hG.cells (fun b i v h => (wpk ρ H w fr).cell b i v h)) q2 ?_⟩
     rw [wrqb]
     exact vrl_mem (hargs ρ B w _ hR hA) fun v v' hv hrel => q4 v v' hv hrel
    cases hq : (isNil N.L && flat v0) with
    | true =>
     rw [hq, cond_true] at h
     cases h
     simp only [Bool.and_eq_true] at hq
     have hL : N.L = [] := by
      have := hq.1
      cases hl : N.L with
      | nil => rfl
      | cons a r => rw [hl] at this; cases this
     refine ⟨rfl, rfl, Nat.le_refl _, fun hl => ⟨hl, fun _ _ _ => rfl⟩, fun ρ B w args' hR hG hA hfree => ?_⟩
     obtain ⟨_, _, hc⟩ := run ρ B w args' hR hG hA
     refine hc.mono ?_
     rintro e w' ⟨ρ', v', rfl, h1, h2, h3, h4⟩
     have hv := h1.of_flat hq.2
     subst hv
     refine ⟨ρ, _, rfl, .flat hq.2, ?_⟩
     have hsame : ∀ b : Nat, b < w.heap.size → w'.heap[b]? = w.heap[b]? := by
      intro b hb
      refine h4.frame b hb fun id ver l hl => ?_
      simp only [turned, hL] at hl
      simp at hl
     refine ⟨⟨fun id ver l b hl hb => (hR.blk id ver l b hl hb).keep (.refl ρ) (hsame _ (hR.bnd _ _ _ hl).2), hR.wf, hR.low, hR.sep, fun id ver l hl => ?_, Nat.le_trans hR.base h4.size, ⟨fun b i x hx => ?_, hR.fz.sep⟩⟩, ?_⟩
     ·have := hR.bnd _ _ _ hl
      have := h4.size
      omega
     ·have h5 := hR.fz.cell b i x hx
      have h6 := hsame b (hR.fz.lt hx)
      unfold World.cell? at h5 ⊢
      simp only at h5 ⊢
      rw [h6]; exact h5
     ·exact ⟨.refl ρ, h4.size, fun b hb _ => hsame b hb, fun id ver l h h' => (by rw [h'] at h; cases h), fun id ver l h h' => (by rw [h'] at h; cases h), Nat.le_refl _, fun _ h => h, fun _ h => .inl h, h4.same, fun _ _ _ h => .inl h⟩
    | false =>
     rw [hq, cond_false] at h
     obtain ⟨m1, m2, m3, m4⟩ := wseb h
     rw [wcy] at m4
     refine ⟨m1, m2, m4, fun hlow => ?_, fun ρ B w args' hR hG hA hfree => ?_⟩
     ·obtain ⟨_, r2, _, r4, _⟩ := wlq hlow fr hk
      have key := wwab r2 hN (fun c hc => ?_) h
      refine ⟨key.2, fun id hid hlt => ?_⟩
      ·rw [m3] at hid
       simp only [List.mem_append, not_or] at hid
       by_cases hL : id ∈ N.L
       ·rw [wvab hL hid.1, r4 id hid.2]
       ·rw [key.1 id hL (by rw [wcy]; exact hlt), r4 id hid.2]
      obtain ⟨i, hi, hci⟩ := List.getElem_of_mem hc
      obtain ⟨c1, c2⟩ := wnk (raise H fr) (wxc a ++ wgb (raise H fr) N.L) 0 N.L 0
      have hi' : i < N.L.length := by rw [← c1]; exact hi
      have := c2 i _ (List.getElem?_eq_getElem hi')
      rw [List.getElem?_eq_getElem hi, hci] at this
      cases this
      exact List.getElem_mem hi'
     ·obtain ⟨hR1, hp, hc⟩ := run ρ B w args' hR hG hA
      refine hc.mono ?_
      rintro e w' ⟨ρ', v', rfl, h1, h2, h3, h4⟩
      obtain ⟨_, _, _, _, _, fin⟩ := merge_ok hR1 hN h
      obtain ⟨ρ2, g1, g2⟩ := fin (by rw [wcy]; exact hfree) h1 h2 h3 h4
      exact ⟨ρ2, v', rfl, g1, hp.trans g2 hfree⟩
 have both : ∀ (a : List Value) (fr : Frs), wih fr → (∀ (ρ : Ren) (B : Nat) (w : World) (args' : List Value), Rel ρ B H w → VRL ρ args args' → VRL (ρ.frz H w fr) a args') →
   wzg rec f H (some (a, fr)) (cfg.know f) = .did v nb eff H' wr → nb = none ∧ eff = true ∧ CallOK P G f args H v H' wr := by
  intro a fr hk hargs h
  cases hkn : cfg.know f with
  | none =>
   rw [hkn] at h
   simp only [wzg, wgt] at h
   exact main a fr hk hargs (fun _ _ _ _ => trivial) h
  | some g =>
   rw [hkn] at h
   simp only [wzg] at h
   cases hg : g a with
   | none =>
    rw [hg] at h
    simp only [callG, wgt] at h
    exact main a fr hk hargs (fun _ _ _ _ => trivial) h
   | some u =>
    rw [hg] at h
    simp only [callG] at h
    cases h
    exact ⟨rfl, rfl, wpkb hk hargs (wog f g a _ hkn hg)⟩
 unfold callS at h
 cases hraw : (cfg.raw f).1 with
 | true =>
  rw [hraw, cond_true] at h
  exact both args [] wnd (fun ρ B w args' hR hA => hA.mono (wpk ρ H w [])) h
 | false =>
  rw [hraw, cond_false] at h
  cases hs : wwc P H 20 args with
  | none =>
   rw [hs] at h
   cases hkn : cfg.know f with
   | none => rw [hkn] at h; cases h
   | some g => rw [hkn] at h; cases h
  | some r =>
   obtain ⟨a, fr⟩ := r
   rw [hs] at h
   exact both a fr (woqb P H 20 args a fr hs) (fun ρ B w args' hR hA => (wnqb hR 20 args args' hA a fr hs).2) h
end
end Go.Den
namespace Go.Den
noncomputable section
variable {P : Program}
theorem wsqb {e e' : Env} {o : Oper} (hk : wsf o.op = true) (hx : ∀ x ∈ o.op.operands.toList, evl e x = evl e' x) : genA P e o = genA P e' o := by
 have h1 : (o.op.operands.toList.all fun x => flat (evl e x)) = o.op.operands.toList.all fun x => flat (evl e' x) := by
  have : ∀ (l : List Operand), (∀ x ∈ l, evl e x = evl e' x) → (l.all fun x => flat (evl e x)) = l.all fun x => flat (evl e' x) := by
   intro l
   induction l with
   | nil => intro _; rfl
   | cons a l ih => intro h; simp only [List.all_cons]; rw [h a (by simp), ih fun x hx => h x (by simp [hx])]
  exact this _ hx
 unfold genA
 rw [h1, execOp_congr o hk hx]
theorem wxm {e e' : Env} (l : List Operand) (h : ∀ x ∈ l, evl e x = evl e' x) : evls e l = evls e' l := by
 induction l with
 | nil => rfl
 | cons a l ih => show evl e a :: evls e l = evl e' a :: evls e' l; rw [h a (by simp), ih fun x hx => h x (by simp [hx])]
theorem wrk {e e' : Env} (l : List (Nat × Nat × Operand)) (h : ∀ x ∈ l, evl e x.2.2 = evl e' x.2.2) : ww e l = ww e' l := by
 induction l with
 | nil => rfl
 | cons a l ih => obtain ⟨x, y, z⟩ := a; simp only [ww]; rw [h (x, y, z) (by simp), ih fun x hx => h x (by simp [hx])]
theorem waj {e e' : Env} (d : Nat) (x : Option Operand) (h : ∀ y, x = some y → evl e y = evl e' y) : wag e d x = wag e' d x := by
 cases x with
 | none => rfl
 | some y => simp only [wag, h y rfl]
theorem wqkb {places : List (Nat × Nat)} : ∀ (parts : List (Nat × Operand)) (L : List (Nat × Nat × Operand)), whs places parts = some L → ∀ q ∈ L, ∃ p ∈ parts, p.2 = q.2.2 := by
 intro parts
 induction parts with
 | nil => intro L h q hq; cases h; simp at hq
 | cons p parts ih =>
  intro L h q hq
  obtain ⟨j, x⟩ := p
  simp only [whs] at h
  split at h
  ·rename_i pl l h1 h2
   cases h
   simp only [List.mem_cons] at hq
   rcases hq with rfl | hq
   ·exact ⟨(j, x), by simp, rfl⟩
   ·obtain ⟨p, h3, h4⟩ := ih l h2 q hq
    exact ⟨p, by simp [h3], h4⟩
  ·cases h
theorem wyv {size : Nat} : ∀ (parts : List (Nat × Operand)), ∀ q ∈ wsj size parts, ∃ p ∈ parts, p.2 = q.2.2 := by
 intro parts
 induction parts with
 | nil => intro q hq; simp [wsj] at hq
 | cons p parts ih =>
  intro q hq
  obtain ⟨j, x⟩ := p
  simp only [wsj, List.mem_cons] at hq
  rcases hq with rfl | hq
  ·exact ⟨(j, x), by simp, rfl⟩
  ·obtain ⟨p, h3, h4⟩ := ih q hq
   exact ⟨p, by simp [h3], h4⟩
theorem wrkb {e e' : Env} {o : Oper} {i : Ins} (hc : comp P o = some i) (hgg : e.g = e'.g) (hx : ∀ x ∈ o.op.operands.toList, evl e x = evl e' x) (H : AH) (f : Nat) : insA P e H f i = insA P e' H f i := by
 unfold comp at hc
 split at hc
 ·rename_i h0
  simp only [Bool.and_eq_true] at h0
  have hk := h0.1
  have hg : genA P e o = genA P e' o := wsqb hk hx
  have m1 : ∀ x, x ∈ o.op.operands.toList → evl e x = evl e' x := hx
  unfold wzob at hc
  split at hc
  ·rename_i x ho; cases hc; simp only [insA, m1 x (by rw [ho]; simp [Op.operands])]
  ·rename_i x ho; cases hc; simp only [insA, m1 x (by rw [ho]; simp [Op.operands])]
  ·rename_i c x y ho; cases hc; simp only [insA, m1 x (by rw [ho]; simp [Op.operands]), m1 y (by rw [ho]; simp [Op.operands]), m1 c (by rw [ho]; simp [Op.operands])]
  ·rename_i elem ho
   split at hc
   ·split at hc
    ·cases hc; rfl
    ·cases hc
   ·cases hc
  ·rename_i elem x ho; cases hc; simp only [insA, m1 x (by rw [ho]; simp [Op.operands])]
  ·rename_i t parts ho
   have mp : ∀ p ∈ parts.toList, evl e p.2 = evl e' p.2 := fun p hp => m1 p.2 (by rw [ho]; simp only [Op.operands]; simp; exact ⟨p.1, by simpa using hp⟩)
   unfold wjo at hc
   split at hc
   ·split at hc
    ·split at hc
     ·rename_i l hl; cases hc
      simp only [insA]
      rw [wrk (e' := e') l fun q hq => by obtain ⟨p, h1, h2⟩ := wqkb _ _ hl q hq; rw [← h2]; exact mp p h1]
     ·cases hc
    ·cases hc
   ·split at hc
    ·cases hc
     simp only [insA]
     rw [wrk (e' := e') _ fun q hq => by obtain ⟨p, h1, h2⟩ := wyv _ q hq; rw [← h2]; exact mp p h1]
    ·cases hc
   ·cases hc
  ·rename_i t len parts ho
   have mp : ∀ p ∈ parts.toList, evl e p.2 = evl e' p.2 := fun p hp => m1 p.2 (by rw [ho]; simp only [Op.operands]; simp; exact ⟨p.1, by simpa using hp⟩)
   unfold wko at hc
   split at hc
   ·split at hc
    ·split at hc
     ·split at hc
      ·cases hc
       simp only [insA]
       rw [wrk (e' := e') _ fun q hq => by obtain ⟨p, h1, h2⟩ := wyv _ q hq; rw [← h2]; exact mp p h1]
      ·cases hc
     ·cases hc
    ·cases hc
   ·cases hc
  ·rename_i t x ho
   unfold wqr at hc
   split at hc
   ·split at hc <;> cases hc <;> simp only [insA, m1 x (by rw [ho]; simp [Op.operands])]
   ·cases hc
  ·rename_i t x y ho
   split at hc
   ·cases hc; simp only [insA, m1 x (by rw [ho]; simp [Op.operands]), m1 y (by rw [ho]; simp [Op.operands])]
   ·cases hc
  ·rename_i x ho; cases hc; simp only [insA, m1 x (by rw [ho]; simp [Op.operands])]
  ·rename_i op t x y yt ho
   have ex := m1 x (by rw [ho]; simp [Op.operands])
   have ey := m1 y (by rw [ho]; simp [Op.operands])
   unfold wxcb at hc
   split at hc
   ·split at hc
    ·cases hc; simp only [insA, ex, ey, wis]; split <;> simp only [wbdb, hg]
    ·split at hc
     ·have : ∀ neg d, won P neg d x y = some i → insA P e H f i = insA P e' H f i := by
       intro neg d h
       unfold won at h
       split at h
       ·split at h
        ·split at h
         ·cases h; simp only [insA, ex, ey]
         ·cases h
        ·cases h
       ·cases h; simp only [insA, ex, ey]
       ·cases h; simp only [insA, ex, ey]
       ·cases h; simp only [insA, ex, ey]
       ·cases h
      split at hc
      ·exact this _ _ hc
      ·exact this _ _ hc
      ·cases hc
     ·cases hc; exact hg
   ·cases hc
  ·cases hc; exact hg
  ·rename_i src dst x ho
   have ex := m1 x (by rw [ho]; simp [Op.operands])
   unfold wxw at hc
   split at hc
   ·split at hc
    ·cases hc; simp only [insA, ex, b2sA, b2sF, hg]
    ·cases hc
   ·split at hc
    ·split at hc
     ·cases hc; simp only [insA, ex]
     ·cases hc
    ·cases hc
   ·unfold www at hc
    split at hc
    ·split at hc
     ·unfold wxob at hc
      split at hc
      ·split at hc
       ·cases hc; simp only [insA, ex, wpz, hg]
       ·cases hc
      ·cases hc
     ·cases hc; exact hg
    ·split at hc
     ·split at hc
      ·unfold wvw at hc
       split at hc
       ·cases hc; simp only [insA, ex, wqz, hg]
       ·cases hc
      ·cases hc; exact hg
     ·cases hc; exact hg
   ·cases hc
  ·rename_i t x ho
   split at hc
   ·cases hc
   ·cases hc; simp only [insA, m1 x (by rw [ho]; simp [Op.operands])]
   ·cases hc
  ·rename_i fn first captured ho
   split at hc
   ·cases hc
    simp only [insA]
    rw [wxm first.toList fun x hx => m1 x (by rw [ho]; simp only [Op.operands, Array.toList_append, List.mem_append]; exact .inl hx), wxm captured.toList fun x hx => m1 x (by rw [ho]; simp only [Op.operands, Array.toList_append, List.mem_append]; exact .inr hx)]
   ·cases hc
  ·cases hc; rfl
  ·rename_i t l c ho
   split at hc
   ·split at hc
    ·split at hc
     ·split at hc
      ·cases hc; simp only [insA, m1 l (by rw [ho]; simp [Op.operands]), m1 c (by rw [ho]; simp [Op.operands])]
      ·cases hc
     ·cases hc
    ·cases hc
   ·cases hc
  ·rename_i t x lo hi mx ho
   have ex := m1 x (by rw [ho]; simp [Op.operands])
   have elo : ∀ y, lo = some y → evl e y = evl e' y := fun y hy => m1 y (by rw [ho, hy]; simp [Op.operands])
   have ehi : ∀ y, hi = some y → evl e y = evl e' y := fun y hy => m1 y (by rw [ho, hy]; simp [Op.operands])
   have emx : ∀ y, mx = some y → evl e y = evl e' y := fun y hy => m1 y (by rw [ho, hy]; simp [Op.operands])
   unfold wtob at hc
   split at hc
   ·cases hc; exact hg
   ·split at hc
    ·cases hc
     have e0 : ∀ d, wag e d lo = wag e' d lo := fun d => waj d lo elo
     have e1 : ∀ d, wag e d hi = wag e' d hi := fun d => waj d hi ehi
     have e2 : ∀ y, mx = some y → evl e y = evl e' y := emx
     simp only [insA, ex, slSA, slF, slF2, hg, e0, e1]
     cases mx with
     | none => rfl
     | some y => simp only [e2 y rfl]
    ·cases hc
   ·split at hc
    ·cases hc; simp only [insA, ex, slAA, waj 0 lo elo, waj _ hi ehi]
    ·cases hc
   ·cases hc
  ·rename_i s x j ho
   have ex := m1 x (by rw [ho]; simp [Op.operands])
   unfold wlo at hc
   split at hc
   ·split at hc
    ·split at hc
     ·split at hc
      ·cases hc
      ·cases hc; simp only [insA, ex]
     ·cases hc
    ·cases hc
   ·cases hc
  ·rename_i s x j ho
   have ex := m1 x (by rw [ho]; simp [Op.operands])
   unfold wmo at hc
   split at hc
   ·split at hc
    ·split at hc
     ·split at hc <;> cases hc <;> simp only [insA, ex]
     ·cases hc
    ·cases hc
   ·cases hc
  ·rename_i t x y ho
   have ex := m1 x (by rw [ho]; simp [Op.operands])
   have ey := m1 y (by rw [ho]; simp [Op.operands])
   unfold wno at hc
   split at hc
   ·split at hc
    ·cases hc; simp only [insA, ex, ey]
    ·cases hc
   ·split at hc
    ·cases hc; simp only [insA, ex, ey]
    ·cases hc
   ·cases hc
  ·rename_i t x y ho
   have ex := m1 x (by rw [ho]; simp [Op.operands])
   have ey := m1 y (by rw [ho]; simp [Op.operands])
   unfold woo at hc
   split at hc
   ·split at hc
    ·split at hc <;> cases hc <;> simp only [insA, ex, ey]
    ·cases hc
   ·cases hc; exact hg
   ·cases hc
  ·rename_i t m k ok ho
   have em := m1 m (by rw [ho]; simp [Op.operands])
   have ek := m1 k (by rw [ho]; simp [Op.operands])
   split at hc
   ·split at hc
    ·split at hc
     ·cases hc; simp only [insA, em, ek, wgx, hg]
     ·cases hc
    ·cases hc
   ·cases hc
  ·rename_i t m k x ho
   split at hc
   ·cases hc; simp only [insA, m1 m (by rw [ho]; simp [Op.operands]), m1 k (by rw [ho]; simp [Op.operands]), m1 x (by rw [ho]; simp [Op.operands])]
   ·cases hc
  ·rename_i t m k x ho
   split at hc
   ·cases hc; simp only [insA, m1 m (by rw [ho]; simp [Op.operands]), m1 k (by rw [ho]; simp [Op.operands]), m1 x (by rw [ho]; simp [Op.operands])]
   ·cases hc
  ·rename_i x j ho; cases hc; simp only [insA, m1 x (by rw [ho]; simp [Op.operands])]
  ·cases hc; exact hg
  ·rename_i c ho
   have margs : ∀ x ∈ c.args.toList, evl e x = evl e' x := fun x hx => m1 x (by rw [ho]; simp only [Op.operands, Call.operands, Array.toList_append, List.mem_append]; exact .inr hx)
   split at hc
   ·rename_i b hb
    unfold whk at hc
    split at hc
    ·rename_i x hx1
     have ex := margs x (by rw [hx1]; simp)
     split at hc
     ·cases hc; simp only [insA, ex, wex, lenF, hg]
     ·cases hc; simp only [insA, ex, wfx, hg]
     ·cases hc; exact hg
     ·cases hc
    ·rename_i x hx1
     split at hc
     ·cases hc; simp only [insA, margs x (by rw [hx1]; simp)]
     ·cases hc
    ·rename_i s x hx1
     split at hc
     ·split at hc
      ·split at hc
       ·cases hc; simp only [insA, hgg, margs s (by rw [hx1]; simp), margs x (by rw [hx1]; simp)]
       ·cases hc
      ·cases hc
     ·cases hc
    ·rename_i d s hx1
     split at hc
     ·split at hc
      ·split at hc
       ·cases hc; simp only [insA, margs s (by rw [hx1]; simp), margs d (by rw [hx1]; simp)]
       ·cases hc
      ·cases hc
     ·cases hc
    ·rename_i x hx1; cases hc; simp only [insA, margs x (by rw [hx1]; simp)]
    ·cases hc; exact hg
    ·cases hc; exact hg
    ·cases hc; exact hg
    ·cases hc; exact hg
    ·cases hc; exact hg
    ·unfold wzw at hc
     split at hc
     ·unfold wyw at hc
      split at hc
      ·rename_i x n hx1
       split at hc
       ·cases hc; simp only [insA, margs x (by rw [hx1]; simp), margs n (by rw [hx1]; simp)]
       ·cases hc
      ·cases hc
     ·split at hc
      ·unfold wzcb at hc
       split at hc
       ·rename_i m k hx1
        split at hc
        ·cases hc; simp only [insA, margs m (by rw [hx1]; simp), margs k (by rw [hx1]; simp)]
        ·cases hc
       ·cases hc
      ·cases hc
   ·rename_i g hg1
    split at hc
    ·cases hc; simp only [insA]; rw [wxm _ margs]
    ·split at hc
     ·unfold wuw at hc
      split at hc
      ·rename_i x hx1; cases hc; simp only [insA, margs x (by rw [hx1]; simp)]
      ·cases hc
     ·unfold wycb at hc
      split at hc
      ·unfold wvob at hc
       split at hc
       ·rename_i x hx1; cases hc; simp only [insA, margs x (by rw [hx1]; simp)]
       ·cases hc
      ·cases hc; exact hg
   ·rename_i g _ hg1
    cases hc
    simp only [insA]
    rw [wxm _ margs, m1 g (by rw [ho]; simp [Op.operands, Call.operands, hg1])]
   ·cases hc
  ·cases hc
 ·cases hc
def Quiet (r : ARes) : Prop := r = .none ∨ ∃ v, r = val v
theorem Quiet.nb {r : ARes} (h : Quiet r) {v : Value} {nb : Option ABlk} (e : r = .simple v nb) : nb = none := by
 rcases h with h | ⟨x, h⟩
 ·rw [h] at e; cases e
 ·rw [h] at e; cases e; rfl
theorem wab : Quiet .none := .inl rfl
theorem wyb (v : Value) : Quiet (val v) := .inr ⟨v, rfl⟩
theorem wgc {b : Bool} {r s : ARes} (h : Quiet r) (h' : Quiet s) : Quiet (bif b then r else s) := by cases b <;> assumption
theorem wskb (o : Option Value) : Quiet (valO o) := by cases o; exact wab; exact wyb _
theorem wsd (e : Env) (o : Oper) : Quiet (genA P e o) := by
 unfold genA
 refine wgc ?_ wab
 split
 ·exact wgc (wyb _) wab
 ·exact wab
theorem wbj {n : Nat} {g : Nat → Value} : Quiet (wei n fun k => val (g k)) := by rw [wzc]; exact wyb _
theorem wsk (off : Nat) (x : Value) : Quiet (wgn off x) := by
 unfold wgn
 split
 ·exact wbj
 ·unfold wdpb; split
  ·exact wbj
  ·exact wab
theorem wym (off : Nat) (x : Value) : Quiet (wir off x) := by
 unfold wir
 split
 ·exact wskb _
 ·exact wab
theorem wzm (off s : Nat) (x : Value) : Quiet (wou off s x) := by
 unfold wou
 split
 ·exact wgc (wyb _) wab
 ·exact wab
theorem wzq (l h : Nat) : Quiet (wtq l h) := wgc (wyb _) wab
theorem wtk (s : Nat) (a : Addr) (c l h : Nat) : Quiet (wjs s a c l h) := wgc (wyb _) wab
theorem wteb (H : AH) (s : Nat) (a : Addr) (n c l h m : Nat) : Quiet (wepb H s a n c l h m) := wgc (wyb _) wab
theorem wxab (H : AH) (s : Nat) (a : Addr) (n l h : Nat) : Quiet (wlz H s a n l h) := wgc (wgc (wyb _) (wyb _)) wab
theorem wueb (H : AH) (s : Nat) (a : Addr) (n c l h : Nat) : Quiet (wmz H s a n c l h) := by
 unfold wmz
 split
 ·exact wxab _ _ _ _ _ _
 ·exact wzq _ _
 ·exact wtk _ _ _ _ _
theorem wyab (H : AH) (s : Nat) (a : Addr) (n c l h m : Nat) : Quiet (wlv H s a n c l h m) := by
 unfold wlv
 split
 ·exact wgc (wzq _ _) wab
 ·exact wteb _ _ _ _ _ _ _ _
theorem wtqb (e : Env) (s : Nat) (lo hi mx : Option Operand) (o : Oper) (p : Option (Nat × List Value)) : Quiet (slF P e s lo hi mx o p) := by
 unfold slF
 split
 ·split
  ·unfold slF2
   split
   ·exact wgc (wgc (wyb _) (wyb _)) wab
   ·split
    ·unfold slFm
     split
     ·exact wgc (wgc (wyb _) wab) wab
     ·exact wab
    ·exact wab
  ·exact wab
 ·exact wsd _ _
theorem waib (e : Env) (H : AH) (s : Nat) (x : Value) (lo hi mx : Option Operand) (o : Oper) : Quiet (slSA P e H s x lo hi mx o) := by
 unfold slSA
 split
 ·split
  ·split
   ·exact wueb _ _ _ _ _ _ _
   ·split
    ·exact wyab _ _ _ _ _ _ _ _
    ·exact wab
  ·exact wab
 ·exact wtqb _ _ _ _ _ _ _
theorem wpt (H : AH) (x : Value) : Quiet (wuj H x) := by
 rcases wtl H x with h | ⟨y, h⟩
 ·exact .inl h
 ·exact .inr ⟨y, h⟩
theorem wqt (H : AH) (n : Nat) (x : Value) : Quiet (wvj H n x) := by
 rcases wul H n x with h | ⟨y, h⟩
 ·exact .inl h
 ·exact .inr ⟨y, h⟩
theorem wzv (e : Env) (H : AH) (kt : Nat) (z : Value) (ok : Bool) (m k : Value) (o : Oper) : Quiet (wgx P e H kt z ok m k o) := by
 unfold wgx
 split
 ·split
  ·refine wgc ?_ wab
   unfold wxp
   split
   ·exact wyb _
   ·exact wyb _
   ·exact wab
  ·exact wab
 ·exact wsd _ _
theorem wzab (e : Env) (H : AH) (x : Value) (o : Oper) : Quiet (b2sA P e H x o) := by
 unfold b2sA
 split
 ·exact wyb _
 ·split
  ·exact wgc (wyb _) wab
  ·exact wab
 ·unfold b2sF
  split
  ·exact wgc (wgc (wyb _) wab) wab
  ·exact wsd _ _
def Loud (r : ARes) : Prop := r = .none ∨ ∃ v H, r = .eff v H
theorem Loud.no {r : ARes} (h : Loud r) {v : Value} {nb : Option ABlk} (e : r = .simple v nb) : False := by
 rcases h with h | ⟨x, H, h⟩
 ·rw [h] at e; cases e
 ·rw [h] at e; cases e
theorem wqb : Loud .none := .inl rfl
theorem wie (v : Value) (H : AH) : Loud (.eff v H) := .inr ⟨v, H, rfl⟩
theorem wad {b : Bool} {r s : ARes} (h : Loud r) (h' : Loud s) : Loud (bif b then r else s) := by cases b <;> assumption
theorem wabb (v : Value) (o : Option AH) : Loud (effV v o) := by cases o; exact wqb; exact wie _ _
theorem wuqb (o : Option AH) : Loud (effU o) := by cases o; exact wqb; exact wie _ _
theorem wuk (own : Bool) (H : AH) (el s : Nat) (cs : List Value) (n : Nat) : Loud (wxf own H el s cs n) := by
 unfold wxf
 exact wad (wad (wie _ _) wqb) (wad (wie _ _) wqb)
theorem loud_app (own : Bool) (H : AH) (el s b : Nat) (x y : Value) : Loud (appA own H el s b x y) := by
 unfold appA
 split
 ·unfold wls
  split
  ·exact wie _ _
  ·exact wad (wie _ _) wqb
  ·exact wad (wie _ _) wqb
  ·unfold wrr; split
   ·exact wie _ _
   ·exact wqb
 ·split
  ·unfold wns
   split
   ·exact wad (wuk _ _ _ _ _ _) wqb
   ·refine wad ?_ wqb
    unfold wms
    refine wad ?_ wqb
    split
    ·exact wad (wie _ _) wqb
    ·exact wqb
   ·refine wad ?_ wqb
    unfold wik
    refine wad (wabb _ _) ?_
    split
    ·exact wuk _ _ _ _ _ _
    ·split
     ·exact wuk _ _ _ _ _ _
     ·exact wqb
   ·unfold wghb
    split
    ·refine wad ?_ wqb
     unfold wqn
     split
     ·exact wad (wie _ _) wqb
     ·exact wqb
    ·exact wqb
  ·exact wqb
 ·exact wqb
theorem waw {e : Env} {H X : AH} {f : Nat} {i : Ins} {v : Value} {nb : Option ABlk} (hl : looks (some i) = false) (h : insA P e H f i = .simple v nb) : insA P e X f i = .simple v nb ∧ nb = none := by
 cases i with
 | mv x => cases h; exact ⟨rfl, rfl⟩
 | pick c a b =>
  refine ⟨h, ?_⟩
  have : Quiet (wnz (evl e a) (evl e b) (evl e c)) := by unfold wnz; split; exact wyb _; exact wyb _; exact wab
  exact this.nb h
 | new z el => simp [looks] at hl
 | box el x => simp [looks] at hl
 | build z ps =>
  refine ⟨h, ?_⟩
  have : Quiet (wom (wtj z (ww e ps))) := by unfold wom; split; exact wyb _; exact wab
  exact this.nb h
 | bslice a b c d => simp [looks] at hl
 | load1 x => simp [looks] at hl
 | loadN s x => simp [looks] at hl
 | store s x y =>
  have : Loud (wsq H s (evl e x) (evl e y)) := by unfold wsq; split; exact wad (wuqb _) wqb; exact wqb
  exact (this.no h).elim
 | nilc x =>
  refine ⟨h, ?_⟩
  have : Quiet (wjz (evl e x)) := by
   unfold wjz; split
   ·exact wyb _
   ·unfold nilcF; split; exact wyb _; exact wab
  exact this.nb h
 | int2 op x y o =>
  refine ⟨h, ?_⟩
  have : Quiet (wis P e op (evl e x) (evl e y) o) := by
   unfold wis; split
   ·unfold wbdb; split
    ·exact wyb _
    ·exact wsd _ _
   ·exact wab
  exact this.nb h
 | ref neg d x y =>
  refine ⟨h, ?_⟩
  have : Quiet (refA neg d (evl e x) (evl e y)) := by
   unfold refA; split
   ·exact wyb _
   ·exact wyb _
   ·exact wyb _
   ·exact wgc (wyb _) wab
   ·exact wab
  exact this.nb h
 | faddr o x => exact ⟨h, (wsk o (evl e x)).nb h⟩
 | iaddrA l s x j =>
  refine ⟨h, ?_⟩
  have : Quiet (wrl l s (evl e x) (evl e j)) := by
   unfold wrl; split
   ·exact wgc (wsk _ _) wab
   ·exact wab
  exact this.nb h
 | iaddrS s x j =>
  refine ⟨h, ?_⟩
  have : Quiet (woh s (evl e x) (evl e j)) := by
   unfold woh; split
   ·unfold wdx; split
    ·exact wgc wbj wab
    ·unfold wcx; split
     ·exact wgc wbj wab
     ·exact wab
   ·exact wab
  exact this.nb h
 | fld1 o x => exact ⟨h, (wym o (evl e x)).nb h⟩
 | fldN o s x => exact ⟨h, (wzm o s (evl e x)).nb h⟩
 | idx1 l s x j =>
  refine ⟨h, ?_⟩
  have : Quiet (wkz l s (evl e x) (evl e j)) := by
   unfold wkz; split
   ·exact wgc (wym _ _) wab
   ·exact wab
  exact this.nb h
 | idxN l s x j =>
  refine ⟨h, ?_⟩
  have : Quiet (wgjb l s (evl e x) (evl e j)) := by
   unfold wgjb; split
   ·exact wgc (wzm _ _ _) wab
   ·exact wab
  exact this.nb h
 | slS a b c d g o => simp [looks] at hl
 | slA n s x lo hi =>
  refine ⟨h, ?_⟩
  have : Quiet (slAA e n s (evl e x) lo hi) := by
   unfold slAA; split
   ·split
    ·exact wtk _ _ _ _ _
    ·exact wab
   ·exact wab
  exact this.nb h
 | len x o =>
  refine ⟨h, ?_⟩
  have : Quiet (wex P e (evl e x) o) := by
   unfold wex; split
   ·exact wyb _
   ·unfold lenF; split
    ·exact wyb _
    ·exact wsd _ _
  exact this.nb h
 | lenM x o => simp [looks] at hl
 | capI x =>
  refine ⟨h, ?_⟩
  have : Quiet (wijb (evl e x)) := by unfold wijb; split; exact wyb _; exact wyb _; exact wab
  exact this.nb h
 | ext x j =>
  refine ⟨h, ?_⟩
  have : Quiet (extA j (evl e x)) := by
   unfold extA; split
   ·split; exact wyb _; exact wab
   ·exact wab
  exact this.nb h
 | iface t x => cases h; exact ⟨rfl, rfl⟩
 | mkfn fn a b => cases h; exact ⟨rfl, rfl⟩
 | app el s b x y => exact ((loud_app e.g.2 H el s b (evl e x) (evl e y)).no h).elim
 | copy s x y =>
  have : Loud (wos H s (evl e x) (evl e y)) := by
   unfold wos; split
   ·split
    ·exact wie _ _
    ·split
     ·exact wabb _ _
     ·exact wqb
   ·exact wie _ _
   ·exact wqb
  exact (this.no h).elim
 | mkmap => simp [looks] at hl
 | look a b c d g o => simp [looks] at hl
 | upd kt m k x =>
  have : Loud (updA P H kt (evl e m) (evl e k) (evl e x)) := by
   unfold updA wjjb; split
   ·split
    ·refine wad ?_ wqb
     unfold wmv; split
     ·split
      ·exact wad (wie _ _) wqb
      ·exact wqb
     ·exact wie _ _
     ·exact wqb
    ·exact wqb
   ·exact wqb
  exact (this.no h).elim
 | del kt m k =>
  have : Loud (delA P H kt (evl e m) (evl e k)) := by
   unfold delA; split
   ·split
    ·refine wad ?_ wqb
     unfold wihb; split
     ·exact wie _ _
     ·exact wie _ _
     ·exact wqb
    ·exact wqb
   ·exact wqb
  exact (this.no h).elim
 | mkslice a b c d g j => simp [looks] at hl
 | b2s x o => simp [looks] at hl
 | s2b el x => simp [looks] at hl
 | call g as => cases h
 | dyn g as =>
  exfalso
  simp only [insA] at h
  unfold dynA at h
  split at h
  ·rename_i q _ _ _
   cases hq : wnn P q with
   | false => rw [hq, cond_false] at h; cases h
   | true => rw [hq, cond_true] at h; cases h
  ·cases h
 | usd x => simp [looks] at hl
 | topu x o => simp [looks] at hl
 | frpu u x o => simp [looks] at hl
 | ustr u x n => simp [looks] at hl
 | mknz el x =>
  exfalso
  simp only [insA, wfpb] at h
  split at h
  ·rename_i n _
   cases hq : Nat.ble (n + 1) 1099511627776 with
   | false => rw [hq, cond_false] at h; cases h
   | true =>
    rw [hq, cond_true] at h
    unfold wwi at h
    cases hk : wmb H.n with
    | false => rw [hk, cond_false] at h; cases h
    | true => rw [hk, cond_true] at h; cases h
  ·cases h
 | gen o => exact ⟨h, (wsd e o).nb h⟩
def Agree (H X : AH) (ids : List Nat) : Prop := ∀ id ∈ ids, ∀ b, H.get id = some b → X.get id = some b
theorem wci {H X : AH} {a : Addr} {n : Nat} {b : CBlk} (h : wtf H a n = some b) (hx : ∀ b, H.get a.block = some b → X.get a.block = some b) : wtf X a n = some b := by
 have := (wbe h).1
 unfold wtf at h ⊢
 rw [hx _ this]
 rw [this] at h
 exact h
theorem wwn {H X : AH} {s : Nat} {a : Addr} {n : Nat} (h : wph s a H n = true) (hx : ∀ b, H.get a.block = some b → X.get a.block = some b) : wph s a X n = true := by
 obtain ⟨b, h1, _⟩ := wjk h
 have h2 := wci h1 hx
 unfold wph at h ⊢
 rw [h1] at h
 rw [h2]
 exact h
theorem war {u : TypeId} {H : AH} {n : Nat} (o : Option (Nat × Nat × List Value)) {v : Value} {nb : Option ABlk} : wkjb P H u n o ≠ .simple v nb := by
 intro h
 unfold wkjb wgpb at h
 split at h
 ·split at h
  ·rename_i k el es _
   cases hq : (Nat.beq k _ && _) with
   | true => rw [hq] at h; cases h
   | false => rw [hq] at h; cases h
  ·cases h
 ·cases h
theorem wvqb {u : TypeId} {H H' : AH} {n : Nat} (o : Option (Nat × Nat × List Value)) {v : Value} (h : wkjb P H u n o = .eff v H') : H' = H := by
 unfold wkjb wgpb at h
 split at h
 ·split at h
  ·rename_i k el es _
   cases hq : (Nat.beq k _ && _) with
   | true => rw [hq] at h; cases h; rfl
   | false => rw [hq] at h; cases h
  ·cases h
 ·cases h
theorem wee {b : Bool} {r : ARes} {v : Value} {nb : Option ABlk} (h : (bif b then r else .none) = .simple v nb) : b = true ∧ r = .simple v nb := by
 cases b with
 | true => exact ⟨rfl, h⟩
 | false => cases h
theorem wtkb {e : Env} {H X : AH} {f : Nat} {i : Ins} {v : Value} {nb : Option ABlk} (hl : looks (some i) = true) (hx : Agree H X (wxb e i)) (h : insA P e H f i = .simple v nb) : insA P e X f i = .simple v nb := by
 cases i with
 | new z el => exact h
 | box el x => exact h
 | bslice a b c d => exact h
 | mkmap => exact h
 | mkslice a b c d g j => exact h
 | s2b el x => exact h
 | load1 x =>
  simp only [insA, wxb] at h hx ⊢
  generalize evl e x = y at *
  unfold wuj at h ⊢
  split at h
  ·rename_i a
   have hx := hx a.block (by simp [idOf])
   split at h
   ·rename_i b hb
    simp only [wci hb hx]
    exact h
   ·cases h
  ·exact h
 | loadN n x =>
  simp only [insA, wxb] at h hx ⊢
  generalize evl e x = y at *
  unfold wvj at h ⊢
  split at h
  ·rename_i a
   have hx := hx a.block (by simp [idOf])
   split at h
   ·rename_i b hb
    simp only [wci hb hx]
    exact h
   ·cases h
  ·exact h
 | slS s x lo hi mx o =>
  simp only [insA, wxb] at h hx ⊢
  generalize evl e x = y at *
  unfold slSA at h ⊢
  split at h
  ·rename_i a len c
   have hxa := hx a.block (by simp [idOf])
   split at h
   ·rename_i l hh e1 e2
    split at h
    ·unfold wmz at h ⊢
     split at h
     ·unfold wlz at h ⊢
      obtain ⟨h1, h2⟩ := wee h
      simp only [Bool.and_eq_true] at h1
      rw [h1.1, h1.2.1, wwn h1.2.2 hxa]
      exact h2
     ·exact h
     ·exact h
    ·rename_i y2
     split at h
     ·rename_i m z e3
      unfold wlv at h ⊢
      split at h
      ·exact h
      ·rename_i c' hc'
       unfold wepb at h ⊢
       obtain ⟨h1, h2⟩ := wee h
       simp only [Bool.and_eq_true] at h1
       have h3 : whjb X s a len c = true := by
        have := h1.2.2.2
        unfold whjb at this ⊢
        split at this
        ·simp only [Bool.and_eq_true] at this ⊢
         exact ⟨this.1, wwn this.2 hxa⟩
        ·exact this
       rw [h1.1, h1.2.1, h1.2.2.1, h3]
       exact h2
     ·cases h
   ·cases h
  ·exact h
 | lenM x o =>
  simp only [insA, wxb] at h hx ⊢
  generalize evl e x = y at *
  unfold wfx at h ⊢
  split at h
  ·rename_i r
   have hx := hx r (by simp [idOf])
   split at h
   ·rename_i es hes
    simp only [hx _ hes]
    exact h
   ·cases h
  ·exact h
 | look kt z ok m k o =>
  simp only [insA, wxb] at h hx ⊢
  generalize evl e m = y at *
  unfold wgx at h ⊢
  split at h
  ·rename_i r
   have hx := hx r (by simp [idOf])
   split at h
   ·rename_i es hes
    simp only [hx _ hes]
    exact h
   ·cases h
  ·exact h
 | b2s x o =>
  simp only [insA, wxb] at h hx ⊢
  generalize evl e x = y at *
  unfold b2sA at h ⊢
  split at h
  ·exact h
  ·rename_i a len c hne
   have hx := hx a.block (by simp [idOf])
   split at h
   ·rename_i l hel
    have : weh X 1 len (.slice (some a) len c) = some l := by
     unfold weh at hel ⊢
     dsimp only at hel ⊢
     cases hq : (Nat.ble len len && Nat.blt 0 len) with
     | false => rw [hq, cond_false] at hel; cases hel
     | true =>
      rw [hq, cond_true] at hel
      rw [cond_true]
      split at hel
      ·rename_i b hb
       rw [wci hb hx]
       exact hel
      ·cases hel
    simp only [this]
    exact h
   ·cases h
  ·exact h
 | usd x =>
  simp only [insA, wxb] at h hx ⊢
  generalize evl e x = y at *
  unfold usdA at h ⊢
  split at h
  ·rename_i a len
   have hx := hx a.block (by simp [idOf])
   obtain ⟨h1, h2⟩ := wee h
   simp only [wwn h1 hx, cond_true]
   exact h2
  ·exact h
  ·exact h
  ·exact h
 | topu x o =>
  simp only [insA, wxb] at h hx ⊢
  generalize evl e x = y at *
  unfold wpz at h ⊢
  split at h
  ·rename_i a
   have hx := hx a.block (by simp [idOf])
   split at h
   ·rename_i b hb
    simp only [wci hb hx]
    exact h
   ·cases h
  ·exact h
 | frpu u x o =>
  simp only [insA, wxb] at h hx ⊢
  generalize evl e x = y at *
  unfold wqz at h ⊢
  split at h
  ·rename_i a
   have hx := hx a.block (by simp [idOf])
   split at h
   ·rename_i b hb
    simp only [wci hb hx]
    exact h
   ·cases h
  ·exact h
 | ustr u x n =>
  simp only [insA, wxb] at h hx ⊢
  unfold wedb at h ⊢
  split at h
  ·exact h
  ·rename_i m _
   split at h
   ·split at h
    ·rename_i b hb
     obtain ⟨_, h2⟩ := wee h
     unfold wrz at h2
     obtain ⟨_, h3⟩ := wee h2
     cases h3
    ·cases h
   ·exact absurd h (war _)
  ·cases h
 | _ => simp [looks] at hl
theorem wjc {b : Bool} {r : ARes} {v : Value} {H : AH} (h : (bif b then r else .none) = .eff v H) : b = true ∧ r = .eff v H := by
 cases b with
 | true => exact ⟨rfl, h⟩
 | false => cases h
def Fr (H H' : AH) (wr : List Nat) : Prop := Low H' ∧ ∀ id, id ∉ wr → id < H.n → H'.get id = H.get id
theorem Fr.refl {H : AH} (h : Low H) (wr : List Nat) : Fr H H wr := ⟨h, fun _ _ _ => rfl⟩
theorem wbr {H : AH} (h : Low H) {k : Nat} {b c : ABlk} {wr : List Nat} (hk : wmb k = true) (hg : H.get k = some c) (hw : k ∈ wr) : Fr H (H.set k b) wr := by
 refine ⟨fun id d hd => ?_, fun id hid _ => ?_⟩
 ·rw [AH.get_set hk] at hd
  rw [AH.set_eq]
  simp only
  split at hd
  ·rename_i e; rw [e]; exact h k c hg
  ·exact h id d hd
 ·rw [AH.get_set hk, if_neg fun e => hid (by rw [e]; exact hw)]
theorem wveb {H : AH} (h : Low H) {b : ABlk} {wr : List Nat} (hk : wmb H.n = true) : Fr H (H.push b) wr :=
 ⟨h.push hk b, fun id _ hlt => by rw [AH.get_push hk, if_neg (by omega)]⟩
theorem wxn {H H' : AH} {a : Addr} {vs : List Value} {wr : List Nat} (hlow : Low H) (h : wkc H a vs = some H') (hw : a.block ∈ wr) : Fr H H' wr := by
 unfold wkc at h
 split at h
 ·rename_i b hb
  cases hq : vs.all oneCell with
  | false => rw [hq, cond_false] at h; cases h
  | true =>
   rw [hq, cond_true] at h
   cases h
   exact wbr hlow (wbq hb).2.2.2 (wbe (wbq hb).1).1 hw
 ·cases h
theorem wlj {own : Bool} {H H' : AH} {el s : Nat} {cs : List Value} {n : Nat} {v : Value} {wr : List Nat} (hlow : Low H) (h : wxf own H el s cs n = .eff v H') : Fr H H' wr := by
 unfold wxf at h
 cases own with
 | true =>
  rw [cond_true] at h
  unfold wsr at h
  obtain ⟨h1, h2⟩ := wjc h
  unfold wpu at h1
  simp only [Bool.and_eq_true] at h1
  cases h2
  exact wveb hlow h1.2.2
 | false =>
  rw [cond_false] at h
  unfold wwi at h
  obtain ⟨h1, h2⟩ := wjc h
  cases h2
  exact wveb hlow h1
theorem wukb {e : Env} {H H' : AH} {f : Nat} {i : Ins} {v : Value} (hlow : Low H) (h : insA P e H f i = .eff v H') : Fr H H' (wnb e i) := by
 have quiet : ∀ {r : ARes}, Quiet r → r = .eff v H' → Fr H H' (wnb e i) := by
  intro r h1 h2
  rcases h1 with h1 | ⟨x, h1⟩
  ·rw [h1] at h2; cases h2
  ·rw [h1] at h2; cases h2
 cases i with
 | store s x y =>
  simp only [insA, wnb] at h ⊢
  generalize evl e x = u at *
  unfold wsq at h
  split at h
  ·rename_i a
   obtain ⟨_, h2⟩ := wjc h
   cases hst : wkc H a (evl e y).cells.toList with
   | none => rw [hst] at h2; cases h2
   | some H2 => rw [hst] at h2; cases h2; exact wxn hlow hst (by simp [idOf])
  ·cases h
 | app el s b x y =>
  simp only [insA, wnb] at h ⊢
  generalize evl e x = u at *
  generalize evl e y = w at *
  unfold appA at h
  split at h
  ·unfold wls at h
   split at h
   ·cases h; exact .refl hlow _
   ·obtain ⟨_, h2⟩ := wjc h; cases h2; exact .refl hlow _
   ·obtain ⟨_, h2⟩ := wjc h; cases h2; exact .refl hlow _
   ·unfold wrr at h
    split at h
    ·cases h; exact .refl hlow _
    ·cases h
  ·split at h
   ·rename_i new _
    unfold wns at h
    split at h
    ·obtain ⟨_, h2⟩ := wjc h; exact wlj hlow h2
    ·rename_i a len
     obtain ⟨_, h2⟩ := wjc h
     unfold wms at h2
     obtain ⟨_, h3⟩ := wjc h2
     split at h3
     ·rename_i bb hbb
      obtain ⟨h4, h5⟩ := wjc h3
      unfold whhb at h4
      simp only [Bool.and_eq_true] at h4
      cases h5
      exact wbr hlow h4.1.2.2.2.2 (wbe hbb).1 (by simp [idOf])
     ·cases h3
    ·rename_i a len c
     obtain ⟨_, h2⟩ := wjc h
     unfold wik at h2
     cases hq : Nat.ble (len + _) c with
     | true =>
      rw [hq, cond_true] at h2
      cases hst : wkc H ⟨a.block, a.off + len * s, a.spot⟩ new with
      | none => rw [hst] at h2; cases h2
      | some H2 => rw [hst] at h2; cases h2; exact wxn hlow hst (by simp [idOf])
     | false =>
      rw [hq, cond_false] at h2
      split at h2
      ·exact wlj hlow h2
      ·split at h2
       ·exact wlj hlow h2
       ·cases h2
    ·unfold wghb at h
     split at h
     ·rename_i q hq
      obtain ⟨_, h2⟩ := wjc h
      unfold wqn at h2
      split at h2
      ·rename_i hget
       obtain ⟨h4, h5⟩ := wjc h2
       unfold wks at h4
       simp only [Bool.and_eq_true] at h4
       cases h5
       rw [wio hq]
       exact wbr hlow h4.2.2.2.2.2.2 hget (by simp [idOf, FO])
      ·cases h2
     ·cases h
   ·cases h
  ·cases h
 | copy s x y =>
  simp only [insA, wnb] at h ⊢
  generalize evl e x = u at *
  unfold wos at h
  split at h
  ·rename_i a dl dc xl _
   split at h
   ·cases h; exact .refl hlow _
   ·split at h
    ·rename_i cs _
     cases hst : wkc H a cs with
     | none => rw [hst] at h; cases h
     | some H2 => rw [hst] at h; cases h; exact wxn hlow hst (by simp [idOf])
    ·cases h
  ·cases h; exact .refl hlow _
  ·cases h
 | upd kt m k x =>
  simp only [insA, wnb] at h ⊢
  generalize evl e m = u at *
  unfold updA wjjb at h
  split at h
  ·rename_i r
   split at h
   ·rename_i hget
    obtain ⟨h1, h2⟩ := wjc h
    simp only [Bool.and_eq_true] at h1
    unfold wmv at h2
    split at h2
    ·split at h2
     ·obtain ⟨_, h3⟩ := wjc h2; cases h3; exact wbr hlow h1.2 hget (by simp [idOf])
     ·cases h2
    ·cases h2; exact wbr hlow h1.2 hget (by simp [idOf])
    ·cases h2
   ·cases h
  ·cases h
 | del kt m k =>
  simp only [insA, wnb] at h ⊢
  generalize evl e m = u at *
  unfold delA at h
  split at h
  ·rename_i r
   split at h
   ·rename_i hget
    obtain ⟨h1, h2⟩ := wjc h
    simp only [Bool.and_eq_true] at h1
    unfold wihb at h2
    split at h2
    ·cases h2; exact wbr hlow h1.2 hget (by simp [idOf])
    ·cases h2; exact wbr hlow h1.2 hget (by simp [idOf])
    ·cases h2
   ·cases h
  ·cases h
 | ustr u x n =>
  simp only [insA, wnb] at h ⊢
  generalize evl e x = y at *
  unfold wedb at h
  split at h
  ·split at h <;> cases h
  ·split at h
   ·rename_i a
    split at h
    ·rename_i bb hbb
     obtain ⟨_, h2⟩ := wjc h
     unfold wrz at h2
     obtain ⟨h3, h4⟩ := wjc h2
     simp only [Bool.and_eq_true] at h3
     cases h4
     exact wbr hlow h3.2.2 (wbe hbb).1 (by simp [idOf])
    ·cases h
   ·rw [wvqb _ h]
    exact Fr.refl hlow _
  ·cases h
 | mknz el x =>
  simp only [insA, wfpb] at h
  split at h
  ·obtain ⟨_, h2⟩ := wjc h
   unfold wwi at h2
   obtain ⟨h3, h4⟩ := wjc h2
   cases h4
   exact wveb hlow h3
  ·cases h
 | mv x => cases h
 | pick c a b => simp only [insA, wnz] at h; split at h <;> cases h
 | new z el => cases h
 | box el x => simp only [insA] at h; cases hj : isJK (evl e x) <;> (rw [hj] at h; cases h)
 | build z ps => simp only [insA, wom] at h; split at h <;> cases h
 | bslice a b c d => simp only [insA, wps] at h; split at h <;> cases h
 | load1 x => exact quiet (wpt H (evl e x)) h
 | loadN s x => exact quiet (wqt H s (evl e x)) h
 | nilc x =>
  simp only [insA, wjz] at h
  split at h
  ·cases h
  ·unfold nilcF at h; split at h <;> cases h
 | int2 op x y o =>
  simp only [insA, wis] at h
  split at h
  ·unfold wbdb at h
   split at h
   ·cases h
   ·exact quiet (wsd e o) h
  ·cases h
 | ref neg d x y =>
  simp only [insA, refA] at h
  split at h <;> first | (cases h; done) | (obtain ⟨_, h2⟩ := wjc h; cases h2)
 | faddr o x => exact quiet (wsk o (evl e x)) h
 | iaddrA l s x j =>
  simp only [insA, wrl] at h
  split at h
  ·obtain ⟨_, h2⟩ := wjc h; exact quiet (wsk _ _) h2
  ·cases h
 | iaddrS s x j =>
  simp only [insA, woh] at h
  split at h
  ·unfold wdx at h
   split at h
   ·obtain ⟨_, h2⟩ := wjc h; rw [wzc] at h2; cases h2
   ·unfold wcx at h
    split at h
    ·obtain ⟨_, h2⟩ := wjc h; rw [wzc] at h2; cases h2
    ·cases h
  ·cases h
 | fld1 o x => exact quiet (wym o (evl e x)) h
 | fldN o s x => exact quiet (wzm o s (evl e x)) h
 | idx1 l s x j =>
  simp only [insA, wkz] at h
  split at h
  ·obtain ⟨_, h2⟩ := wjc h; exact quiet (wym _ _) h2
  ·cases h
 | idxN l s x j =>
  simp only [insA, wgjb] at h
  split at h
  ·obtain ⟨_, h2⟩ := wjc h; exact quiet (wzm _ _ _) h2
  ·cases h
 | slS s x lo hi mx o => exact quiet (waib e H s (evl e x) lo hi mx o) h
 | slA n s x lo hi =>
  simp only [insA, slAA] at h
  split at h
  ·split at h
   ·exact quiet (wtk _ _ _ _ _) h
   ·cases h
  ·cases h
 | len x o =>
  simp only [insA, wex] at h
  split at h
  ·cases h
  ·unfold lenF at h
   split at h
   ·cases h
   ·exact quiet (wsd e o) h
 | lenM x o =>
  simp only [insA, wfx] at h
  split at h
  ·split at h <;> cases h
  ·exact quiet (wsd e o) h
 | capI x => simp only [insA, wijb] at h; split at h <;> cases h
 | ext x j =>
  simp only [insA, extA] at h
  split at h
  ·split at h <;> cases h
  ·cases h
 | iface t x => cases h
 | mkfn fn a b => cases h
 | mkmap => cases h
 | look kt z ok m k o => exact quiet (wzv e H kt z ok (evl e m) (evl e k) o) h
 | mkslice a b c d g j =>
  simp only [insA, wnm] at h
  split at h
  ·obtain ⟨_, h2⟩ := wjc h; cases h2
  ·cases h
 | b2s x o => exact quiet (wzab e H (evl e x) o) h
 | s2b el x => simp only [insA, s2bA] at h; split at h <;> cases h
 | call g as => cases h
 | dyn g as =>
  simp only [insA, dynA] at h
  split at h
  ·obtain ⟨_, h2⟩ := wjc h; cases h2
  ·cases h
 | usd x =>
  simp only [insA, usdA] at h
  split at h
  ·obtain ⟨_, h2⟩ := wjc h; cases h2
  ·cases h
  ·cases h
  ·unfold usdF at h
   split at h
   ·obtain ⟨_, h2⟩ := wjc h; cases h2
   ·cases h
 | topu x o =>
  simp only [insA, wpz] at h
  split at h
  ·split at h <;> cases h
  ·exact quiet (wsd e o) h
 | frpu u x o =>
  simp only [insA, wqz] at h
  split at h
  ·split at h
   ·obtain ⟨_, h2⟩ := wjc h; cases h2
   ·cases h
  ·exact quiet (wsd e o) h
 | gen o => exact quiet (wsd e o) h
end
end Go.Den
namespace Go.Den
noncomputable section
variable {P : Program} {G : Nat → Option (List Value)}
def Step1 (P : Program) (cs : wzb) (ops : Array Oper) (k : Nat) (o : Oper) (x : Tr) (e : Env) (H : AH) (e' : Env) (H' : AH) : Prop :=
 x.i = k ∧ x.o = wti P ops o ∧ x.e = e ∧ x.h = H ∧ x.id = H.n ∧ gsel (woc ops o.guard) e = some x.want ∧ e' = e.put o.dst x.v ∧
  ((x.want = false ∧ x.v = undef ∧ x.nb = none ∧ x.eff = none ∧ H' = H) ∨
   (x.want = true ∧ ∃ b, wgq P cs e H (comp P o) = .did x.v x.nb b H' x.wr ∧ x.eff = if b then some H' else none))
def Chain (P : Program) (cs : wzb) (ops : Array Oper) : Nat → List Oper → List Tr → Env → AH → Env → AH → Prop
 | _, [], [], e, H, e2, H2 => e2 = e ∧ H2 = H
 | k, o :: r, x :: l, e, H, e2, H2 => ∃ e' H', Step1 P cs ops k o x e H e' H' ∧ Chain P cs ops (k + 1) r l e' H' e2 H2
 | _, _, _, _, _, _, _ => False
theorem wdm {cs : wzb} (hrec : CSOK P G cs) {e : Env} {H : AH} {ins : Option Ins} {v : Value} {nb : Option ABlk} {b : Bool} {H' : AH} {wr : List Nat} (h : wgq P cs e H ins = .did v nb b H' wr) :
  ∃ i, ins = some i ∧ ((nb = none ∧ b = false ∧ H' = H ∧ insA P e H H.n i = .simple v none) ∨ (∃ blk, nb = some blk ∧ b = false ∧ wmb H.n = true ∧ H' = H.push blk ∧ insA P e H H.n i = .simple v (some blk)) ∨
   (nb = none ∧ b = true ∧ H.n ≤ H'.n ∧ (Low H → Fr H H' wr))) := by
 cases ins with
 | none => cases h
 | some i =>
  refine ⟨i, rfl, ?_⟩
  change wcg cs (wnb e i) H (insA P e H H.n i) = _ at h
  cases hr : insA P e H H.n i with
  | none => rw [hr] at h; cases h
  | simple u ub =>
   rw [hr] at h
   cases ub with
   | none => cases h; exact .inl ⟨rfl, rfl, rfl, rfl⟩
   | some blk =>
    simp only [wcg] at h
    cases hk : wmb H.n with
    | false => rw [hk, cond_false] at h; cases h
    | true => rw [hk, cond_true] at h; cases h; exact .inr (.inl ⟨blk, rfl, rfl, rfl, rfl, rfl⟩)
  | eff u H2 =>
   rw [hr] at h
   simp only [wcg] at h
   cases hk : Nat.ble H.n H2.n with
   | false => rw [hk, cond_false] at h; cases h
   | true =>
    rw [hk, cond_true] at h
    cases h
    exact .inr (.inr ⟨rfl, rfl, Nat.le_of_ble_eq_true hk, fun hlow => wukb hlow hr⟩)
  | call f args =>
   rw [hr] at h
   simp only [wcg] at h
   obtain ⟨h1, h2, h3⟩ := hrec _ _ _ _ _ _ _ _ h
   exact .inr (.inr ⟨h1, h2, h3.n, h3.frame⟩)
theorem Step1.mono {cs : wzb} (hrec : CSOK P G cs) {ops : Array Oper} {k : Nat} {o : Oper} {x : Tr} {e e' : Env} {H H' : AH} (h : Step1 P cs ops k o x e H e' H') : H.n ≤ H'.n := by
 obtain ⟨_, _, _, _, _, _, _, h⟩ := h
 rcases h with ⟨_, _, _, _, rfl⟩ | ⟨_, b, hs, _⟩
 ·exact Nat.le_refl _
 ·obtain ⟨i, _, hc⟩ := wdm hrec hs
  rcases hc with ⟨_, _, rfl, _⟩ | ⟨blk, _, _, _, rfl, _⟩ | ⟨_, _, h, _⟩
  ·exact Nat.le_refl _
  ·rw [wpg]; omega
  ·exact h
theorem Step1.quiet {cs : wzb} (hrec : CSOK P G cs) {ops : Array Oper} {k : Nat} {o : Oper} {x : Tr} {e e' : Env} {H H' : AH} (h : Step1 P cs ops k o x e H e' H') (he : x.eff = none) :
  (x.nb = none ∧ H' = H) ∨ ∃ blk, x.nb = some blk ∧ wmb H.n = true ∧ H' = H.push blk := by
 obtain ⟨_, _, _, _, _, _, _, h⟩ := h
 rcases h with ⟨_, _, h1, _, rfl⟩ | ⟨_, b, hs, hb⟩
 ·exact .inl ⟨h1, rfl⟩
 ·obtain ⟨i, _, hc⟩ := wdm hrec hs
  rcases hc with ⟨h1, _, h2, _⟩ | ⟨blk, h1, _, h2, h3, _⟩ | ⟨_, h2, _⟩
  ·exact .inl ⟨h1, h2⟩
  ·exact .inr ⟨blk, h1, h2, h3⟩
  ·rw [h2] at hb; rw [hb] at he; cases he
theorem Step1.eff_some {cs : wzb} (hrec : CSOK P G cs) {ops : Array Oper} {k : Nat} {o : Oper} {x : Tr} {e e' : Env} {H H' G2 : AH} (h : Step1 P cs ops k o x e H e' H') (he : x.eff = some G2) : G2 = H' ∧ x.nb = none ∧ x.want = true ∧ ∃ i, comp P o = some i ∧ wgq P cs e H (comp P o) = .did x.v none true H' x.wr ∧ (Low H → Fr H H' x.wr) := by
 obtain ⟨_, _, _, _, _, _, _, h⟩ := h
 rcases h with ⟨_, _, _, h1, _⟩ | ⟨hw, b, hs, hb⟩
 ·rw [he] at h1; cases h1
 ·cases b with
  | false => rw [he] at hb; cases hb
  | true =>
   rw [he] at hb
   cases hb
   obtain ⟨i, hi, hc⟩ := wdm hrec hs
   have hn : x.nb = none ∧ (Low H → Fr H H' x.wr) := by
    rcases hc with ⟨_, h2, _⟩ | ⟨_, _, h2, _⟩ | ⟨h2, _, _, h3⟩
    ·cases h2
    ·cases h2
    ·exact ⟨h2, h3⟩
   rw [hn.1] at hs
   exact ⟨rfl, hn.1, hw, i, hi, hs, hn.2⟩
theorem Chain.moments {cs : wzb} {ops : Array Oper} : ∀ (l : List Oper) (k : Nat) (tr : List Tr) (e : Env) (H : AH) (e2 : Env) (H2 : AH), Chain P cs ops k l tr e H e2 H2 →
  tr.length = l.length ∧ ∃ (E : Nat → Env) (Hs : Nat → AH), E k = e ∧ Hs k = H ∧ E (k + l.length) = e2 ∧ Hs (k + l.length) = H2 ∧
   ∀ (m : Nat) (o : Oper), l[m]? = some o → ∃ x, tr[m]? = some x ∧ Step1 P cs ops (k + m) o x (E (k + m)) (Hs (k + m)) (E (k + m + 1)) (Hs (k + m + 1)) := by
 intro l
 induction l with
 | nil =>
  intro k tr e H e2 H2 h
  cases tr with
  | nil => obtain ⟨rfl, rfl⟩ := h; exact ⟨rfl, fun _ => e2, fun _ => H2, rfl, rfl, rfl, rfl, fun m o hm => by simp at hm⟩
  | cons x l => exact h.elim
 | cons o r ih =>
  intro k tr e H e2 H2 h
  cases tr with
  | nil => exact h.elim
  | cons x l =>
   obtain ⟨e', H', h1, h2⟩ := h
   obtain ⟨h3, E, Hs, h4, h5, h6, h7, h8⟩ := ih _ _ _ _ _ _ h2
   refine ⟨by simp [h3], fun j => if j = k then e else E j, fun j => if j = k then H else Hs j, by simp, by simp, ?_, ?_, ?_⟩
   ·have : ¬ (k + (o :: r).length = k) := by simp
    simp only [this, if_false]
    rw [← h6]; congr 1; simp; omega
   ·have : ¬ (k + (o :: r).length = k) := by simp
    simp only [this, if_false]
    rw [← h7]; congr 1; simp; omega
   ·intro m o' hm
    cases m with
    | zero =>
     simp at hm
     subst hm
     refine ⟨x, rfl, ?_⟩
     have : ¬ (k + 1 = k) := by omega
     simp only [Nat.add_zero, if_true, this, if_false, h4, h5]
     exact h1
    | succ m =>
     obtain ⟨y, h9, h10⟩ := h8 m o' (by simpa using hm)
     refine ⟨y, by simpa using h9, ?_⟩
     have e1 : ¬ (k + (m + 1) = k) := by omega
     have e2 : ¬ (k + (m + 1) + 1 = k) := by omega
     simp only [e1, e2, if_false]
     rw [show k + (m + 1) = k + 1 + m by omega]
     exact h10
end
end Go.Den
namespace Go.Den
noncomputable section
variable {P : Program} {G : Nat → Option (List Value)}
theorem Chain.mono {cs : wzb} (hrec : CSOK P G cs) {ops : Array Oper} : ∀ (l : List Oper) (k : Nat) (tr : List Tr) (e : Env) (H : AH) (e2 : Env) (H2 : AH), Chain P cs ops k l tr e H e2 H2 →
  H.n ≤ H2.n ∧ ∀ z ∈ tr, H.n ≤ z.id ∧ z.id ≤ H2.n ∧ (z.nb ≠ none → z.id < H2.n ∧ wmb z.id = true) := by
 intro l
 induction l with
 | nil =>
  intro k tr e H e2 H2 h
  cases tr with
  | nil => obtain ⟨_, rfl⟩ := h; exact ⟨Nat.le_refl _, fun z hz => by simp at hz⟩
  | cons x l => exact h.elim
 | cons o r ih =>
  intro k tr e H e2 H2 h
  cases tr with
  | nil => exact h.elim
  | cons x l =>
   obtain ⟨e', H', h1, h2⟩ := h
   obtain ⟨h3, h4⟩ := ih _ _ _ _ _ _ h2
   have hm := h1.mono hrec
   refine ⟨by omega, fun z hz => ?_⟩
   simp only [List.mem_cons] at hz
   rcases hz with rfl | hz
   ·have hid : z.id = H.n := h1.2.2.2.2.1
    refine ⟨by omega, by omega, fun hnb => ?_⟩
    cases he : z.eff with
    | some G => exact absurd (h1.eff_some hrec he).2.1 hnb
    | none =>
     rcases h1.quiet hrec he with ⟨h5, _⟩ | ⟨blk, _, h6, h7⟩
     ·exact absurd h5 hnb
     ·rw [h7, wpg] at h3
      rw [hid]
      exact ⟨by omega, h6⟩
   ·obtain ⟨h5, h6, h7⟩ := h4 z hz
    exact ⟨by omega, h6, h7⟩
theorem Chain.unique {cs : wzb} (hrec : CSOK P G cs) {ops : Array Oper} : ∀ (l : List Oper) (k : Nat) (tr : List Tr) (e : Env) (H : AH) (e2 : Env) (H2 : AH), Chain P cs ops k l tr e H e2 H2 →
  ∀ y ∈ tr, ∀ z ∈ tr, y.nb ≠ none → z.nb ≠ none → y.id = z.id → y = z := by
 intro l
 induction l with
 | nil =>
  intro k tr e H e2 H2 h y hy
  cases tr with
  | nil => simp at hy
  | cons x l => exact h.elim
 | cons o r ih =>
  intro k tr e H e2 H2 h
  cases tr with
  | nil => exact h.elim
  | cons x l =>
   obtain ⟨e', H', h1, h2⟩ := h
   obtain ⟨h3, h4⟩ := h2.mono hrec
   have hx : x.nb ≠ none → x.id < H'.n := by
    intro hnb
    have hid : x.id = H.n := h1.2.2.2.2.1
    cases he : x.eff with
    | some G => exact absurd (h1.eff_some hrec he).2.1 hnb
    | none =>
     rcases h1.quiet hrec he with ⟨h5, _⟩ | ⟨blk, _, h6, h7⟩
     ·exact absurd h5 hnb
     ·rw [h7, wpg]; omega
   intro y hy z hz hyn hzn e
   simp only [List.mem_cons] at hy hz
   rcases hy with rfl | hy <;> rcases hz with rfl | hz
   ·rfl
   ·have := (h4 z hz).1; have := hx hyn; omega
   ·have := (h4 y hy).1; have := hx hzn; omega
   ·exact ih _ _ _ _ _ _ h2 y hy z hz hyn hzn e
theorem wvk (n : Nat) : ∀ (tr : List Tr) (G : AH), (∀ x ∈ tr, x.nb ≠ none → wmb x.id = true) → ∀ id, id < G.n → (wob n tr G).get id = G.get id := by
 intro tr
 induction tr with
 | nil => intro G _ id _; rfl
 | cons x r ih =>
  intro G hk id hid
  have hk' := fun y hy => hk y (List.mem_cons_of_mem x hy)
  simp only [wob]
  cases hnb : x.nb with
  | none => exact ih G hk' id hid
  | some b =>
   simp only
   cases hq : Nat.ble G.n x.id with
   | false => rw [cond_false]; exact ih G hk' id hid
   | true =>
    rw [cond_true]
    have hle := Nat.le_of_ble_eq_true hq
    have h5 := ih { n := G.n, t := T.put b 40 G.t x.id } hk' id hid
    rw [h5]
    simp only [AH.get]
    rw [T.get_put' (hk x (by simp) (by rw [hnb]; simp)), if_neg (by omega)]
theorem wwqb (n : Nat) : ∀ (tr : List Tr) (G : AH) (id : Nat) (b : ABlk), (∀ x ∈ tr, x.nb ≠ none → wmb x.id = true) → (∀ x ∈ tr, x.nb ≠ none → x.id = id → x.nb = some b) → G.get id = some b → (wob n tr G).get id = some b := by
 intro tr
 induction tr with
 | nil => intro G id b _ _ h; exact h
 | cons x r ih =>
  intro G id b hk hu h
  have hk' := fun y hy => hk y (List.mem_cons_of_mem x hy)
  have hu' := fun y hy => hu y (List.mem_cons_of_mem x hy)
  simp only [wob]
  cases hnb : x.nb with
  | none => exact ih G id b hk' hu' h
  | some c =>
   simp only
   cases hq : Nat.ble G.n x.id with
   | false => rw [cond_false]; exact ih G id b hk' hu' h
   | true =>
    rw [cond_true]
    refine ih _ id b hk' hu' ?_
    simp only [AH.get]
    rw [T.get_put' (hk x (by simp) (by rw [hnb]; simp))]
    split
    ·rename_i e
     have := hu x (by simp) (by rw [hnb]; simp) e.symm
     rw [hnb] at this
     exact this
    ·exact h
theorem wgp (n : Nat) : ∀ (tr : List Tr) (G : AH) (y : Tr) (b : ABlk), (∀ x ∈ tr, x.nb ≠ none → wmb x.id = true) → (∀ x ∈ tr, x.nb ≠ none → x.id = y.id → x.nb = some b) → y ∈ tr → y.nb = some b → G.n ≤ y.id → (wob n tr G).get y.id = some b := by
 intro tr
 induction tr with
 | nil => intro G y b _ _ hy; simp at hy
 | cons x r ih =>
  intro G y b hk hu hy hyb hge
  have hk' := fun z hz => hk z (List.mem_cons_of_mem x hz)
  have hu' := fun z hz => hu z (List.mem_cons_of_mem x hz)
  simp only [List.mem_cons] at hy
  rcases hy with rfl | hy
  ·simp only [wob, hyb]
   rw [Nat.ble_eq_true_of_le hge, cond_true]
   refine wwqb n r _ y.id b hk' hu' ?_
   simp only [AH.get]
   rw [T.get_put' (hk y (by simp) (by rw [hyb]; simp)), if_pos rfl]
  ·simp only [wob]
   cases hnb : x.nb with
   | none => exact ih G y b hk' hu' hy hyb hge
   | some c =>
    simp only
    cases hq : Nat.ble G.n x.id with
    | false => rw [cond_false]; exact ih G y b hk' hu' hy hyb hge
    | true => rw [cond_true]; exact ih _ y b hk' hu' hy hyb hge
theorem whp (n : Nat) : ∀ (tr : List Tr) (G : AH) (id : Nat) (b : ABlk), (∀ x ∈ tr, x.nb ≠ none → wmb x.id = true) → (wob n tr G).get id = some b → G.get id = some b ∨ ∃ y ∈ tr, y.nb = some b ∧ y.id = id ∧ G.n ≤ id := by
 intro tr
 induction tr with
 | nil => intro G id b _ h; exact .inl h
 | cons x r ih =>
  intro G id b hk h
  have hk' := fun z hz => hk z (List.mem_cons_of_mem x hz)
  simp only [wob] at h
  cases hnb : x.nb with
  | none =>
   rw [hnb] at h
   rcases ih G id b hk' h with h | ⟨y, h1, h2⟩
   ·exact .inl h
   ·exact .inr ⟨y, by simp [h1], h2⟩
  | some c =>
   rw [hnb] at h
   simp only at h
   cases hq : Nat.ble G.n x.id with
   | false =>
    rw [hq, cond_false] at h
    rcases ih G id b hk' h with h | ⟨y, h1, h2⟩
    ·exact .inl h
    ·exact .inr ⟨y, by simp [h1], h2⟩
   | true =>
    rw [hq, cond_true] at h
    rcases ih _ id b hk' h with h | ⟨y, h1, h2⟩
    ·simp only [AH.get] at h
     rw [T.get_put' (hk x (by simp) (by rw [hnb]; simp))] at h
     split at h
     ·rename_i e
      cases h
      exact .inr ⟨x, by simp, hnb, e.symm, by rw [e]; exact Nat.le_of_ble_eq_true hq⟩
     ·exact .inl h
    ·exact .inr ⟨y, by simp [h1], h2⟩
theorem wbw (n : Nat) : ∀ (tr : List Tr) (G : AH), (wob n tr G).n = n := by
 intro tr
 induction tr with
 | nil => intro G; rfl
 | cons x r ih =>
  intro G
  simp only [wob]
  cases x.nb with
  | none => exact ih G
  | some b =>
   simp only
   cases Nat.ble G.n x.id with
   | false => rw [cond_false]; exact ih G
   | true => rw [cond_true]; exact ih _
theorem Chain.ahead {cs : wzb} (hrec : CSOK P G cs) {ops : Array Oper} : ∀ (l : List Oper) (k : Nat) (tr : List Tr) (e : Env) (H : AH) (e2 : Env) (H2 : AH), Chain P cs ops k l tr e H e2 H2 →
  ∀ (done : List (Nat × AH)) (j : Nat) (Gj : AH) (todo : List (Nat × AH)), wpb tr = done ++ (j, Gj) :: todo → Low (whe H done) →
   ∃ x ∈ tr, x.i = j ∧ x.eff = some Gj ∧ (whe H done).n ≤ x.h.n ∧ (∀ id, id < (whe H done).n → x.h.get id = (whe H done).get id) ∧
    (∀ id b, (whe H done).n ≤ id → x.h.get id = some b → ∃ y ∈ tr, y.nb = some b ∧ y.id = id ∧ id < x.h.n) := by
 intro l
 induction l with
 | nil =>
  intro k tr e H e2 H2 h done j Gj todo he
  cases tr with
  | nil => simp [wpb] at he
  | cons x l => exact h.elim
 | cons o r ih =>
  intro k tr e H e2 H2 h done j Gj todo he hlow
  cases tr with
  | nil => exact h.elim
  | cons x l =>
   obtain ⟨e', H', h1, h2⟩ := h
   have hh : x.h = H := h1.2.2.2.1
   have hi : x.i = k := h1.1
   cases hx : x.eff with
   | some G =>
    simp only [wpb, hx] at he
    obtain ⟨hG, _⟩ := h1.eff_some hrec hx
    cases done with
    | nil =>
     simp only [List.nil_append, List.cons.injEq, Prod.mk.injEq] at he
     obtain ⟨⟨rfl, rfl⟩, _⟩ := he
     refine ⟨x, by simp, rfl, hx, by rw [hh]; exact Nat.le_refl _, fun id _ => by rw [hh]; rfl, fun id b hge hb => ?_⟩
     rw [hh] at hb
     have h9 : id < H.n := hlow id b hb
     have h10 : H.n ≤ id := hge
     omega
    | cons d done =>
     simp only [List.cons_append, List.cons.injEq] at he
     obtain ⟨rfl, he⟩ := he
     simp only [whe] at hlow ⊢
     rw [← hG] at h2
     obtain ⟨y, hy, h3⟩ := ih _ _ _ _ _ _ h2 done j Gj todo he hlow
     refine ⟨y, by simp [hy], h3.1, h3.2.1, h3.2.2.1, h3.2.2.2.1, fun id b hge hb => ?_⟩
     obtain ⟨z, hz, h4⟩ := h3.2.2.2.2 id b hge hb
     exact ⟨z, by simp [hz], h4⟩
   | none =>
    simp only [wpb, hx] at he
    cases done with
    | cons d done =>
     simp only [whe] at hlow ⊢
     obtain ⟨y, hy, h3⟩ := ih _ _ _ _ _ _ h2 (d :: done) j Gj todo he (by simpa only [whe] using hlow)
     simp only [whe] at h3
     refine ⟨y, by simp [hy], h3.1, h3.2.1, h3.2.2.1, h3.2.2.2.1, fun id b hge hb => ?_⟩
     obtain ⟨z, hz, h4⟩ := h3.2.2.2.2 id b hge hb
     exact ⟨z, by simp [hz], h4⟩
    | nil =>
     simp only [whe] at hlow ⊢
     rcases h1.quiet hrec hx with ⟨_, rfl⟩ | ⟨blk, hb1, hk1, rfl⟩
     ·obtain ⟨y, hy, h3⟩ := ih _ _ _ _ _ _ h2 [] j Gj todo he hlow
      simp only [whe] at h3
      refine ⟨y, by simp [hy], h3.1, h3.2.1, h3.2.2.1, h3.2.2.2.1, fun id b hge hb => ?_⟩
      obtain ⟨z, hz, h4⟩ := h3.2.2.2.2 id b hge hb
      exact ⟨z, by simp [hz], h4⟩
     ·obtain ⟨y, hy, h3⟩ := ih _ _ _ _ _ _ h2 [] j Gj todo he (Low.push hlow hk1 blk)
      simp only [whe] at h3
      obtain ⟨g1, g2, g3, g4, g5⟩ := h3
      rw [wpg] at g3 g4 g5
      refine ⟨y, by simp [hy], g1, g2, by omega, fun id hid => ?_, fun id b hge hb => ?_⟩
      ·rw [g4 id (by omega), AH.get_push hk1, if_neg (by omega)]
      ·by_cases hid : id = H.n
       ·subst hid
        rw [g4 _ (by omega), AH.get_push hk1, if_pos rfl] at hb
        cases hb
        exact ⟨x, by simp, hb1, h1.2.2.2.2.1, by omega⟩
       ·obtain ⟨z, hz, h4⟩ := g5 id b (by omega) hb
        exact ⟨z, by simp [hz], h4⟩
def envS (S : Nat → Bool) : List Tr → Env → Env
 | [], e => e
 | x :: r, e => envS S r (if S x.i then e.put x.o.dst x.v else e)
theorem wrt (S : Nat → Bool) : ∀ (tr : List Tr) (e : Env), (envS S tr e).n = e.n := by
 intro tr
 induction tr with
 | nil => intro e; rfl
 | cons x r ih =>
  intro e
  simp only [envS]
  rw [ih]
  split
  ·rw [Env.put_n]
  ·rfl
theorem wyj {e : Env} (hk : wmb e.n = true) {d : Option Tmp} {v : Value} {t : Nat} (h : d ≠ some t) : (e.put d v).get t = e.get t := by
 cases d with
 | none => rfl
 | some d =>
  rw [Env.get_put hk, if_neg]
  intro hc
  exact h (by rw [hc.1])
theorem wgy {e e' : Env} (hk : wmb e.n = true) (hn : e'.n = e.n) {d : Option Tmp} {v : Value} {t : Nat} (h : e.get t = e'.get t) : (e.put d v).get t = (e'.put d v).get t := by
 cases d with
 | none => exact h
 | some d => rw [Env.get_put hk, Env.get_put (by rw [hn]; exact hk), hn, h]
theorem wiy {S S' : Nat → Bool} {t : Nat} : ∀ (tr : List Tr) (e e' : Env), wmb e.n = true → e'.n = e.n → e.get t = e'.get t → (∀ x ∈ tr, x.o.dst = some t → S x.i = S' x.i) → (envS S tr e).get t = (envS S' tr e').get t := by
 intro tr
 induction tr with
 | nil => intro e e' _ _ h _; exact h
 | cons x r ih =>
  intro e e' hk hn h hS
  simp only [envS]
  have hS' := fun y hy => hS y (List.mem_cons_of_mem x hy)
  by_cases hd : x.o.dst = some t
  ·have hsx := hS x (by simp) hd
   rw [← hsx]
   cases S x.i with
   | true =>
    simp only [if_true]
    exact ih _ _ (by rw [Env.put_n]; exact hk) (by rw [Env.put_n, Env.put_n]; exact hn) (wgy hk hn h) hS'
   | false => simp only [Bool.false_eq_true, if_false]; exact ih _ _ hk hn h hS'
  ·refine ih _ _ ?_ ?_ ?_ hS'
   ·split
    ·rw [Env.put_n]; exact hk
    ·exact hk
   ·(repeat' split) <;> simp only [Env.put_n, hn]
   ·have h1 : (if S x.i = true then e.put x.o.dst x.v else e).get t = e.get t := by
     split
     ·exact wyj hk hd
     ·rfl
    have h2 : (if S' x.i = true then e'.put x.o.dst x.v else e').get t = e'.get t := by
     split
     ·exact wyj (by rw [hn]; exact hk) hd
     ·rfl
    rw [h1, h2, h]
theorem wbbb (P : Program) (ops : Array Oper) (o : Oper) : (wti P ops o).dst = o.dst := rfl
theorem Chain.envS_upto {cs : wzb} {ops : Array Oper} {S : Nat → Bool} : ∀ (l : List Oper) (k : Nat) (tr : List Tr) (e : Env) (H : AH) (e2 : Env) (H2 : AH), Chain P cs ops k l tr e H e2 H2 →
  (∀ x ∈ tr, S x.i = true) → envS S tr e = e2 := by
 intro l
 induction l with
 | nil =>
  intro k tr e H e2 H2 h hS
  cases tr with
  | nil => exact h.1.symm
  | cons x l => exact h.elim
 | cons o r ih =>
  intro k tr e H e2 H2 h hS
  cases tr with
  | nil => exact h.elim
  | cons x l =>
   obtain ⟨e', H', h1, h2⟩ := h
   simp only [envS, hS x (by simp), if_true]
   have : e' = e.put x.o.dst x.v := by rw [h1.2.1, wbbb]; exact h1.2.2.2.2.2.2.1
   rw [← this]
   exact ih _ _ _ _ _ _ h2 fun y hy => hS y (by simp [hy])
theorem wcbb (S : Nat → Bool) : ∀ (tr : List Tr) (e : Env), (∀ x ∈ tr, S x.i = false) → envS S tr e = e := by
 intro tr
 induction tr with
 | nil => intro e _; rfl
 | cons x r ih =>
  intro e h
  simp only [envS, h x (by simp), Bool.false_eq_true, if_false]
  exact ih e fun y hy => h y (by simp [hy])
theorem Chain.split {cs : wzb} {ops : Array Oper} : ∀ (l : List Oper) (k : Nat) (tr : List Tr) (e : Env) (H : AH) (e2 : Env) (H2 : AH), Chain P cs ops k l tr e H e2 H2 →
  ∀ (m : Nat) (o : Oper), l[m]? = some o → ∃ x e1 H1 e1' H1', x ∈ tr ∧ tr[m]? = some x ∧ Step1 P cs ops (k + m) o x e1 H1 e1' H1' ∧ e1 = envS (fun j => decide (j < k + m)) tr e ∧ (∀ y ∈ tr, k ≤ y.i) ∧ Chain P cs ops (k + m + 1) (l.drop (m + 1)) (tr.drop (m + 1)) e1' H1' e2 H2 := by
 intro l
 induction l with
 | nil => intro k tr e H e2 H2 h m o hm; simp at hm
 | cons o r ih =>
  intro k tr e H e2 H2 h m o' hm
  cases tr with
  | nil => exact h.elim
  | cons x l =>
   obtain ⟨e', H', h1, h2⟩ := h
   have hge : ∀ (l : List Oper) (k : Nat) (tr : List Tr) (e : Env) (H : AH) (e2 : Env) (H2 : AH), Chain P cs ops k l tr e H e2 H2 → ∀ y ∈ tr, k ≤ y.i := by
    intro l
    induction l with
    | nil => intro k tr e H e2 H2 h y hy; cases tr with
     | nil => simp at hy
     | cons x l => exact h.elim
    | cons o r ih2 => intro k tr e H e2 H2 h y hy; cases tr with
     | nil => simp at hy
     | cons x l =>
      obtain ⟨e', H', h1, h2⟩ := h
      simp only [List.mem_cons] at hy
      rcases hy with rfl | hy
      ·rw [h1.1]; exact Nat.le_refl _
      ·have := ih2 _ _ _ _ _ _ h2 y hy; omega
   have hgex : ∀ y ∈ (x :: l), k ≤ y.i := fun y hy => by
    simp only [List.mem_cons] at hy
    rcases hy with rfl | hy
    ·rw [h1.1]; exact Nat.le_refl _
    ·have := hge _ _ _ _ _ _ _ h2 y hy; omega
   cases m with
   | zero =>
    simp at hm
    subst hm
    refine ⟨x, e, H, e', H', by simp, rfl, h1, ?_, hgex, h2⟩
    rw [wcbb]
    intro y hy
    have := hgex y hy
    simp; omega
   | succ m =>
    obtain ⟨y, e1, H1, e1', H1', h3, h4, h5, h6, h7, h8⟩ := ih _ _ _ _ _ _ h2 m o' (by simpa using hm)
    refine ⟨y, e1, H1, e1', H1', by simp [h3], by simpa using h4, by rw [show k + (m + 1) = k + 1 + m by omega]; exact h5, ?_, hgex, ?_⟩
    ·rw [h6]
     simp only [envS]
     have hx : decide (x.i < k + (m + 1)) = true := by rw [h1.1]; simp
     rw [if_pos hx]
     have : e' = e.put x.o.dst x.v := by rw [h1.2.1, wbbb]; exact h1.2.2.2.2.2.2.1
     rw [← this, show k + 1 + m = k + (m + 1) by omega]
    ·simpa [show k + (m + 1) + 1 = k + 1 + m + 1 by omega] using h8
end
end Go.Den
namespace Go.Den
noncomputable section
variable {P : Program} {G : Nat → Option (List Value)}
def bef (ops : Array Oper) (i j : Nat) : Prop := ((Region.before ops).getD j 0).testBit i = true
def wjn (acc : Array Nat) (o : Oper) : Nat := o.after.foldl (fun s e => if Region.binds .any e then s ||| 2 ^ e.on ||| acc.getD e.on 0 else s) 0
theorem mask_bit {acc : Array Nat} {i : Nat} : ∀ (l : List Edge) (s : Nat), (l.foldl (fun s e => if Region.binds .any e then s ||| 2 ^ e.on ||| acc.getD e.on 0 else s) s).testBit i = true →
  s.testBit i = true ∨ ∃ e ∈ l, Region.binds .any e = true ∧ (e.on = i ∨ (acc.getD e.on 0).testBit i = true) := by
 intro l
 induction l with
 | nil => intro s h; exact .inl h
 | cons e l ih =>
  intro s h
  simp only [List.foldl_cons] at h
  rcases ih _ h with h1 | ⟨e', h1, h2⟩
  ·split at h1
   ·rename_i hb
    simp only [Nat.testBit_or, Bool.or_eq_true, Nat.testBit_two_pow, decide_eq_true_eq] at h1
    rcases h1 with (h1 | h1) | h1
    ·exact .inl h1
    ·exact .inr ⟨e, by simp, hb, .inl h1⟩
    ·exact .inr ⟨e, by simp, hb, .inr h1⟩
   ·exact .inl h1
  ·exact .inr ⟨e', by simp [h1], h2⟩
theorem wweb : ∀ (l : List Oper) (acc : Array Nat), (l.foldl (fun acc o => acc.push (wjn acc o)) acc).size = acc.size + l.length ∧
  (∀ i, i < acc.size → (l.foldl (fun acc o => acc.push (wjn acc o)) acc).getD i 0 = acc.getD i 0) ∧
  (∀ (m : Nat) (o : Oper), l[m]? = some o → ∃ acc' : Array Nat, acc'.size = acc.size + m ∧ (∀ i, i < acc'.size → (l.foldl (fun acc o => acc.push (wjn acc o)) acc).getD i 0 = acc'.getD i 0) ∧
   (l.foldl (fun acc o => acc.push (wjn acc o)) acc).getD (acc.size + m) 0 = wjn acc' o) := by
 intro l
 induction l with
 | nil => intro acc; exact ⟨rfl, fun _ _ => rfl, fun m o h => by simp at h⟩
 | cons o l ih =>
  intro acc
  obtain ⟨h1, h2, h3⟩ := ih (acc.push (wjn acc o))
  simp only [List.foldl_cons]
  have hpush : ∀ i, i < acc.size → (acc.push (wjn acc o)).getD i 0 = acc.getD i 0 := by
   intro i hi
   have h4 : i < (acc.push (wjn acc o)).size := by simp; omega
   simp only [Array.getD, h4, hi, dif_pos]
   exact Array.getElem_push_lt hi
  refine ⟨by rw [h1]; simp; omega, fun i hi => by rw [h2 i (by simp; omega), hpush i hi], ?_⟩
  intro m o' hm
  cases m with
  | zero =>
   simp at hm
   subst hm
   refine ⟨acc, rfl, fun i hi => by rw [h2 i (by simp; omega), hpush i hi], ?_⟩
   rw [h2 _ (by simp)]
   simp [Array.getD]
  | succ m =>
   obtain ⟨acc', g1, g2, g3⟩ := h3 m o' (by simpa using hm)
   refine ⟨acc', by rw [g1]; simp; omega, g2, ?_⟩
   rw [← g3]
   congr 1
   simp; omega
theorem wdbb (ops : Array Oper) : Region.before ops = ops.toList.foldl (fun acc o => acc.push (wjn acc o)) #[] := by
 unfold Region.before
 rw [← Array.foldl_toList]
 rfl
theorem wbib {ops : Array Oper} (he : wyl ops = true) {i j : Nat} {o : Oper} (ho : ops[j]? = some o) (h : bef ops i j) : ∃ e ∈ o.after.toList, Region.binds .any e = true ∧ e.on < j ∧ (e.on = i ∨ bef ops i e.on) := by
 unfold bef at h
 rw [wdbb] at h
 obtain ⟨_, _, h3⟩ := wweb ops.toList #[]
 obtain ⟨acc', g1, g2, g3⟩ := h3 j o (by simpa using ho)
 simp only [List.size_toArray, List.length_nil, Nat.zero_add] at g1 g3
 rw [g3] at h
 unfold wjn at h
 rw [← Array.foldl_toList] at h
 rcases mask_bit _ _ h with h4 | ⟨e, h5, h6, h7⟩
 ·simp at h4
 ·have hlt : e.on < j := by
   unfold wyl at he
   rw [List.all_eq_true] at he
   have h8 := he (o, j) (by rw [List.mem_zipIdx_iff_getElem?]; simpa using ho)
   simp only [List.all_eq_true] at h8
   have h9 := h8 e h5
   rw [h6] at h9
   simpa using h9
  refine ⟨e, h5, h6, hlt, ?_⟩
  rcases h7 with h7 | h7
  ·exact .inl h7
  ·refine .inr ?_
   unfold bef
   rw [wdbb, g2 e.on (by omega)]
   exact h7
theorem wvkb {ops : Array Oper} (h : wtx ops (Region.before ops) = true) {i j : Nat} {o p : Oper} {d : Tmp} (hi : ops[i]? = some o) (hj : ops[j]? = some p) (hne : i ≠ j) (hd : p.dst = some d) (hn : d ∈ wxl o ops) : bef ops (min i j) (max i j) := by
 unfold wtx at h
 rw [List.all_eq_true] at h
 have h1 := h (o, i) (by rw [List.mem_zipIdx_iff_getElem?]; simpa using hi)
 rw [List.all_eq_true] at h1
 have h2 := h1 (p, j) (by rw [List.mem_zipIdx_iff_getElem?]; simpa using hj)
 have h3 : (i == j) = false := by simpa using hne
 have h4 : (wxl o ops).contains d = true := by simpa using hn
 simp only [h3, hd, h4, Bool.false_or, Bool.not_true] at h2
 exact h2
theorem wtd : ∀ (tr : List Tr) (y : Nat × AH), y ∈ wpb tr ↔ ∃ x ∈ tr, x.i = y.1 ∧ x.eff = some y.2 := by
 intro tr
 induction tr with
 | nil => intro y; simp [wpb]
 | cons x r ih =>
  intro y
  simp only [wpb]
  cases hx : x.eff with
  | none =>
   simp only [ih, List.mem_cons]
   constructor
   ·rintro ⟨z, h1, h2⟩; exact ⟨z, .inr h1, h2⟩
   ·rintro ⟨z, h1 | h1, h2, h3⟩
    ·subst h1; rw [hx] at h3; cases h3
    ·exact ⟨z, h1, h2, h3⟩
  | some G =>
   simp only [List.mem_cons, ih]
   constructor
   ·rintro (rfl | ⟨z, h1, h2⟩)
    ·exact ⟨x, .inl rfl, rfl, hx⟩
    ·exact ⟨z, .inr h1, h2⟩
   ·rintro ⟨z, h1 | h1, h2, h3⟩
    ·subst h1
     left
     rw [hx] at h3
     exact Prod.ext h2.symm (Option.some.inj h3).symm
    ·exact .inr ⟨z, h1, h2, h3⟩
theorem wem (X : AH) : ∀ (l : List (Nat × AH)) (j : Nat) (G : AH), whe X (l ++ [(j, G)]) = G := by
 intro l
 induction l generalizing X with
 | nil => intro j G; rfl
 | cons p l ih => intro j G; obtain ⟨a, b⟩ := p; simp only [List.cons_append, whe]; exact ih b j G
end
end Go.Den
namespace Go.Den
noncomputable section
variable {P : Program} {G : Nat → Option (List Value)}
theorem wcib {cs : List Value} {elem : TypeId} {c : CBlk} (h : exact cs elem = .cells c) : c.WF := by
 unfold exact at h
 cases h
 exact ⟨fun n hn => by simp at hn, Nat.le_refl _, fun h => h⟩
theorem insA_wf {e : Env} {H : AH} {f : Nat} {i : Ins} {v : Value} {b : ABlk} (h : insA P e H f i = .simple v (some b)) : ∀ c, b = .cells c → c.WF := by
 cases hl : looks (some i) with
 | false => have := (waw (X := H) hl h).2; cases this
 | true =>
  intro c hc
  subst hc
  cases i with
  | new z el => simp only [insA, ARes.simple.injEq, Option.some.injEq] at h; exact wcib h.2
  | box el x =>
   simp only [insA] at h
   cases hq : isJK (evl e x) with
   | true => rw [hq, cond_true] at h; cases h
   | false => rw [hq, cond_false] at h; simp only [ARes.simple.injEq, Option.some.injEq] at h; exact wcib h.2
  | bslice a l z d =>
   simp only [insA] at h
   cases hq : wtj z (ww e d) with
   | none => rw [hq] at h; cases h
   | some cs => rw [hq] at h; simp only [wps, ARes.simple.injEq, Option.some.injEq] at h; exact wcib h.2
  | mkslice a s d g l j =>
   simp only [insA] at h
   unfold wnm at h
   split at h
   ·rename_i l c _ _
    cases hq : (Nat.ble l c && roomy c d) with
    | false => rw [hq, cond_false] at h; cases h
    | true => rw [hq, cond_true] at h; simp only [ARes.simple.injEq, Option.some.injEq] at h; exact wcib h.2
   ·cases h
  | s2b el x =>
   simp only [insA] at h
   unfold s2bA at h
   split at h
   ·simp only [ARes.simple.injEq, Option.some.injEq, ABlk.cells.injEq] at h
    obtain ⟨_, rfl⟩ := h
    exact ⟨fun n hn => by simp only [List.mem_singleton] at hn; subst hn; simp [u8s], Nat.zero_le _, fun h => h⟩
   ·cases h
  | mkmap => simp only [insA, ARes.simple.injEq, Option.some.injEq] at h; cases h.2
  | load1 x => have := (wpt H (evl e x)).nb h; cases this
  | loadN s x => have := (wqt H s (evl e x)).nb h; cases this
  | slS s x lo hi mx o => have := (waib e H s (evl e x) lo hi mx o).nb h; cases this
  | lenM x o =>
   exfalso
   simp only [insA] at h
   unfold wfx at h
   split at h
   ·split at h <;> cases h
   ·have := (wsd e o).nb h; cases this
  | look a b2 z m k o => have := (wzv e H a b2 z (evl e m) (evl e k) o).nb h; cases this
  | b2s x o => have := (wzab e H (evl e x) o).nb h; cases this
  | usd x =>
   exfalso
   simp only [insA] at h
   unfold usdA at h
   split at h
   ·obtain ⟨_, h2⟩ := wee h; cases h2
   ·cases h
   ·cases h
   ·unfold usdF at h
    split at h
    ·obtain ⟨_, h2⟩ := wee h; cases h2
    ·cases h
  | topu x o =>
   exfalso
   simp only [insA] at h
   unfold wpz at h
   split at h
   ·split at h <;> cases h
   ·have := (wsd e o).nb h; cases this
  | frpu u x o =>
   exfalso
   simp only [insA] at h
   unfold wqz at h
   split at h
   ·split at h
    ·obtain ⟨_, h2⟩ := wee h; cases h2
    ·cases h
   ·have := (wsd e o).nb h; cases this
  | ustr u x n =>
   exfalso
   simp only [insA] at h
   unfold wedb at h
   split at h
   ·split at h <;> cases h
   ·split at h
    ·split at h
     ·obtain ⟨_, h2⟩ := wee h
      unfold wrz at h2
      obtain ⟨_, h3⟩ := wee h2
      cases h3
     ·cases h
    ·exact war _ h
   ·cases h
  | _ => simp [looks] at hl
def wwk (z : Tr) : Nat := match z.eff with
 | some G => G.n
 | none => match z.nb with
  | some _ => z.id + 1
  | none => z.id
theorem Step1.endOf_eq {cs : wzb} (hrec : CSOK P G cs) {ops : Array Oper} {k : Nat} {o : Oper} {x : Tr} {e e' : Env} {H H' : AH} (h : Step1 P cs ops k o x e H e' H') : wwk x = H'.n := by
 unfold wwk
 have hid : x.id = H.n := h.2.2.2.2.1
 cases he : x.eff with
 | some G => rw [(h.eff_some hrec he).1]
 | none =>
  rcases h.quiet hrec he with ⟨h1, h2⟩ | ⟨blk, h1, h2, h3⟩
  ·rw [h1, h2]; exact hid
  ·rw [h1, h3, wpg, hid]
def Apart (y z : Tr) : Prop := y.i < z.i ∧ wwk y ≤ z.id
theorem Chain.apart {cs : wzb} (hrec : CSOK P G cs) {ops : Array Oper} : ∀ (l : List Oper) (k : Nat) (tr : List Tr) (e : Env) (H : AH) (e2 : Env) (H2 : AH), Chain P cs ops k l tr e H e2 H2 →
  tr.Pairwise Apart ∧ ∀ z ∈ tr, k ≤ z.i := by
 intro l
 induction l with
 | nil =>
  intro k tr e H e2 H2 h
  cases tr with
  | nil => exact ⟨.nil, fun z hz => by simp at hz⟩
  | cons x l => exact h.elim
 | cons o r ih =>
  intro k tr e H e2 H2 h
  cases tr with
  | nil => exact h.elim
  | cons x l =>
   obtain ⟨e', H', h1, h2⟩ := h
   obtain ⟨h3, h4⟩ := ih _ _ _ _ _ _ h2
   obtain ⟨h5, h6⟩ := h2.mono hrec
   have hi : x.i = k := h1.1
   refine ⟨.cons (fun z hz => ⟨by have := h4 z hz; omega, by rw [h1.endOf_eq hrec]; exact (h6 z hz).1⟩) h3, fun z hz => ?_⟩
   simp only [List.mem_cons] at hz
   rcases hz with rfl | hz
   ·omega
   ·have := h4 z hz; omega
theorem wip {tr : List Tr} (h : tr.Pairwise Apart) {y z : Tr} (hy : y ∈ tr) (hz : z ∈ tr) : y = z ∨ Apart y z ∨ Apart z y := by
 induction h with
 | nil => simp at hy
 | cons h1 _ ih =>
  simp only [List.mem_cons] at hy hz
  rcases hy with rfl | hy <;> rcases hz with rfl | hz
  ·exact .inl rfl
  ·exact .inr (.inl (h1 _ hz))
  ·exact .inr (.inr (h1 _ hy))
  ·exact ih hy hz
theorem wwkb {tr : List Tr} (h : tr.Pairwise Apart) {y z : Tr} (hy : y ∈ tr) (hz : z ∈ tr) (e : y.i = z.i) : y = z := by
 rcases wip h hy hz with h1 | h1 | h1
 ·exact h1
 ·have := h1.1; omega
 ·have := h1.1; omega
theorem wdib {tr : List Tr} (h : tr.Pairwise Apart) {y z : Tr} (hy : y ∈ tr) (hz : z ∈ tr) {id : Nat} (h1 : y.id ≤ id) (h2 : id < wwk y) (h3 : z.id ≤ id) (h4 : id < wwk z) : y = z := by
 rcases wip h hy hz with h5 | h5 | h5
 ·exact h5
 ·have := h5.2; omega
 ·have := h5.2; omega
theorem Chain.at {cs : wzb} (hrec : CSOK P G cs) {ops : Array Oper} {tr : List Tr} {e e2 : Env} {H H2 : AH} (h : Chain P cs ops 0 ops.toList tr e H e2 H2) {i : Nat} {o : Oper} (ho : ops[i]? = some o) :
  ∃ x e1 H1 e1' H1', x ∈ tr ∧ Step1 P cs ops i o x e1 H1 e1' H1' ∧ e1 = envS (fun j => decide (j < i)) tr e ∧ H1'.n ≤ H2.n := by
 obtain ⟨x, e1, H1, e1', H1', h1, _, h2, h3, _, h4⟩ := h.split _ _ _ _ _ _ _ i o (by simpa using ho)
 rw [Nat.zero_add] at h2 h3
 exact ⟨x, e1, H1, e1', H1', h1, h2, h3, (h4.mono hrec).1⟩
theorem Chain.oper {cs : wzb} {ops : Array Oper} : ∀ (l : List Oper) (k : Nat) (tr : List Tr) (e : Env) (H : AH) (e2 : Env) (H2 : AH), Chain P cs ops k l tr e H e2 H2 → ops.toList.drop k = l →
  ∀ y ∈ tr, ∃ p, ops[y.i]? = some p ∧ y.o = wti P ops p := by
 intro l
 induction l with
 | nil =>
  intro k tr e H e2 H2 h _ y hy
  cases tr with
  | nil => simp at hy
  | cons x l => exact h.elim
 | cons o r ih =>
  intro k tr e H e2 H2 h hd y hy
  cases tr with
  | nil => exact h.elim
  | cons x l =>
   obtain ⟨e', H', h1, h2⟩ := h
   have hk : ops[k]? = some o := by
    have : (ops.toList.drop k)[0]? = some o := by rw [hd]; rfl
    simpa using this
   have hd' : ops.toList.drop (k + 1) = r := by
    have : (ops.toList.drop k).drop 1 = r := by rw [hd]; rfl
    rw [List.drop_drop] at this
    exact this
   simp only [List.mem_cons] at hy
   rcases hy with rfl | hy
   ·exact ⟨o, by rw [h1.1]; exact hk, h1.2.1⟩
   ·exact ih _ _ _ _ _ _ h2 hd' y hy
theorem wcw {S : Nat → Bool} {t : Nat} : ∀ (tr : List Tr) (e : Env), wmb e.n = true → (∀ y ∈ tr, y.o.dst = some t → S y.i = false) → (envS S tr e).get t = e.get t := by
 intro tr
 induction tr with
 | nil => intro e _ _; rfl
 | cons x r ih =>
  intro e hk h
  simp only [envS]
  by_cases hs : S x.i = true
  ·rw [if_pos hs, ih _ (by rw [Env.put_n]; exact hk) fun y hy => h y (List.mem_cons_of_mem x hy)]
   refine wyj hk fun hd => ?_
   have := h x (by simp) hd
   rw [hs] at this
   cases this
  ·rw [if_neg hs]
   exact ih e hk fun y hy => h y (List.mem_cons_of_mem x hy)
theorem envS_add {S S' : Nat → Bool} {x : Tr} : ∀ (tr : List Tr) (e : Env), wmb e.n = true → x ∈ tr → tr.Pairwise Apart → S x.i = false → S' x.i = true → (∀ y ∈ tr, y.i ≠ x.i → S' y.i = S y.i) →
  (∀ y ∈ tr, ∀ d, x.o.dst = some d → y.o.dst = some d → x.i < y.i → S y.i = false) → ∀ t, (envS S' tr e).get t = ((envS S tr e).put x.o.dst x.v).get t := by
 intro tr
 induction tr with
 | nil => intro e _ hx; simp at hx
 | cons y r ih =>
  intro e hk hx hp hS hS' hsame hlate t
  have hp' := List.pairwise_cons.1 hp
  have hsame' := fun z hz => hsame z (List.mem_cons_of_mem y hz)
  have hlate' := fun z hz => hlate z (List.mem_cons_of_mem y hz)
  simp only [List.mem_cons] at hx
  simp only [envS]
  rcases hx with rfl | hx
  ·rw [hS, hS', if_pos rfl, if_neg (by simp)]
   have hr : ∀ z ∈ r, S' z.i = S z.i := fun z hz => hsame' z hz (by have := (hp'.1 z hz).1; omega)
   have hkn : wmb (envS S r e).n = true := by rw [wrt]; exact hk
   cases hd : x.o.dst with
   | none => exact wiy r e e hk rfl rfl fun z hz _ => hr z hz
   | some d =>
    by_cases ht : t = d
    ·subst ht
     have hq : ∀ z ∈ r, z.o.dst = some t → S z.i = false := fun z hz hzd => hlate' z hz t hd hzd (hp'.1 z hz).1
     rw [wcw r _ (by rw [Env.put_n]; exact hk) fun z hz hzd => by rw [hr z hz]; exact hq z hz hzd]
     rw [Env.get_put hk, Env.get_put hkn, wrt, wcw r e hk hq]
    ·have hne : some d ≠ some t := fun h => ht (Option.some.inj h).symm
     rw [wyj hkn hne]
     exact wiy r _ _ (by rw [Env.put_n]; exact hk) (by rw [Env.put_n]) (wyj hk hne) fun z hz _ => hr z hz
  ·have hlt := (hp'.1 x hx).1
   rw [hsame y (by simp) (by omega)]
   refine ih _ ?_ hx hp'.2 hS hS' hsame' hlate' t
   split
   ·rw [Env.put_n]; exact hk
   ·exact hk
theorem wcr (S : Nat → Bool) : ∀ (tr : List Tr) (e : Env), (envS S tr e).g = e.g := by
 intro tr
 induction tr with
 | nil => intro e; rfl
 | cons x r ih =>
  intro e
  simp only [envS]
  rw [ih]
  split
  ·rw [Env.put_g]
  ·rfl
theorem ERel.congr {ρ : Ren} {e e' : Env} {a : Act} (h : ERel ρ e a) (hn : e'.n = e.n) (hgg : e'.g = e.g) (hg : ∀ t, e'.get t = e.get t) : ERel ρ e' a :=
 ⟨h.defers, by rw [hn]; exact h.size, by rw [hn]; exact h.ok, fun k => by rw [hg]; exact h.get k, fun i => by rw [hgg]; exact h.glob i⟩
theorem left_lt {p q : Nat → Bool} {i : Nat} : ∀ (l : List Nat), (∀ j ∈ l, q j = true → p j = true) → i ∈ l → p i = true → q i = false → (l.filter q).length < (l.filter p).length := by
 intro l
 have hle : ∀ (l : List Nat), (∀ j ∈ l, q j = true → p j = true) → (l.filter q).length ≤ (l.filter p).length := by
  intro l
  induction l with
  | nil => intro _; simp
  | cons a l ih =>
   intro h
   have ih := ih fun j hj => h j (List.mem_cons_of_mem a hj)
   have ha := h a (by simp)
   simp only [List.filter_cons]
   cases hq : q a with
   | true => rw [ha hq]; simpa using ih
   | false =>
    cases hp : p a with
    | true => simp; omega
    | false => simpa using ih
 induction l with
 | nil => intro _ h; simp at h
 | cons a l ih =>
  intro h hi hp hq
  have h' := fun j hj => h j (List.mem_cons_of_mem a hj)
  simp only [List.mem_cons] at hi
  simp only [List.filter_cons]
  rcases hi with rfl | hi
  ·rw [hp, hq]
   have := hle l h'
   simp; omega
  ·have ih := ih h' hi hp hq
   cases hq2 : q a with
   | true => rw [h a (by simp) hq2]; simpa using ih
   | false =>
    cases hp2 : p a with
    | true => simp; omega
    | false => simpa using ih
theorem wxkb {ops : Array Oper} {listed : Array Bool} (he : wyl ops = true) (hs : listed.size = ops.size) (hr : Region.ready .any ops listed = []) : ∀ i, i < ops.size → listed.getD i false = true := by
 intro i
 induction i using Nat.strongRecOn with
 | _ i ih =>
  intro hi
  cases hq : listed.getD i false with
  | true => rfl
  | false =>
   exfalso
   have hli : i < listed.size := by omega
   have : i ∈ Region.ready .any ops listed := by
    rw [mem_ready]
    refine ⟨by simp [hli] at hq ⊢; exact hq, ops[i], Array.getElem?_eq_getElem hi, fun e hm hb => ?_⟩
    have hlt : e.on < i := by
     unfold wyl at he
     rw [List.all_eq_true] at he
     have h8 := he (ops[i], i) (by rw [List.mem_zipIdx_iff_getElem?]; simp [hi])
     simp only [List.all_eq_true] at h8
     have h9 := h8 e (by simpa using hm)
     rw [hb] at h9
     simpa using h9
    exact ih e.on hlt (by omega)
   rw [hr] at this
   cases this
theorem wmq {tr : List Tr} (h : tr.Pairwise Apart) : (wpb tr).Pairwise fun y z => y.1 < z.1 := by
 induction h with
 | nil => exact .nil
 | cons h1 _ ih =>
  simp only [wpb]
  split
  ·refine .cons (fun z hz => ?_) ih
   obtain ⟨y, hy, h2, _⟩ := (wtd _ _).1 hz
   have := (h1 y hy).1
   simp only
   omega
  ·exact ih
end
end Go.Den
