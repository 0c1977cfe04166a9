/-
  THE ENGINE FOR UNKNOWN VALUES, part C: each operation made ready once more does what it did.
-/
import Derived.Test.YtdbhfmdndiphcaaE3B2
namespace Go.Den
noncomputable section

variable {P : Program}

theorem valO_none {v : Option Value} (h : valO v ≠ .none) : ∃ u, v = some u := by
  cases v with
  | none => exact absurd rfl h
  | some u => exact ⟨u, rfl⟩

theorem tyU_some {t : TypeId} {d : TypeDesc} (h : tyU P t = some d) : P.underlying t = some d := h

theorem under_run {t : TypeId} {d : TypeDesc} (h : tyU P t = some d) {α : Type} (f : TypeDesc → Sem α) : pureRun P ((underlying t).bind f) = pureRun P (f d) := by
  rw [pureRun_bind', pureRun_under t h, Option.bind_some]

theorem comp_bin {o : Oper} {dst : Option Tmp} {op : BinOp} {t : TypeId} {x y : Operand} {b type : TypeId} {pos : String} {after : Array Edge} {guard : Option (Nat × Bool)} (ho : o = ⟨dst, .binOp op t x y b, type, pos, after, guard⟩) {i : Ins} (h : comp P o = some i) :
    ∃ d, tyU P t = some d ∧ ((isIntD d = true ∧ i = .int2 op x y o) ∨ (isIntD d = false ∧ isRefD d = false ∧ i = .gen o) ∨ (isIntD d = false ∧ isRefD d = true)) := by
  subst ho
  unfold comp at h
  split at h
  · simp only [compOp, compBin] at h
    split at h
    · rename_i d hd
      refine ⟨d, hd, ?_⟩
      split at h
      · rename_i h1; cases h; exact .inl ⟨h1, rfl⟩
      · rename_i h1
        split at h
        · rename_i h2; exact .inr (.inr ⟨by simpa using h1, h2⟩)
        · rename_i h2; cases h; exact .inr (.inl ⟨by simpa using h1, by simpa using h2, rfl⟩)
    · cases h
  · cases h

theorem int2_ok {e : Env} {dst : Option Tmp} {op : BinOp} {t : TypeId} {x y : Operand} {b type : TypeId} {pos : String} {after : Array Edge} {guard : Option (Nat × Bool)} {k : IntKind} (hop : isSh op = false) (hne : int2V op k (evl e x) (evl e y) ≠ .none) :
    int2A P e op (evl e x) (evl e y) ⟨dst, .binOp op t x y b, type, pos, after, guard⟩ = int2V op k (evl e x) (evl e y) := by
  unfold int2V at hne ⊢
  unfold int2A
  split at hne
  · rename_i j a j' c hx hy
    split at hne
    · rename_i hk
      obtain ⟨rfl, rfl⟩ := hk
      obtain ⟨v, hv⟩ := valO_none hne
      simp only [hx, hy, hv, and_self, if_true]
      cases hq : intsF op j' j' a c with
      | none =>
        simp only [orGen]
        refine genA_of (by simp [Op.operands, hx, hy, flat]) ?_ (flat_int hv)
        rw [exec_bin, hx, hy, guard_int, Option.bind_some, pure_int op hop, hv]
        rfl
      | some u =>
        have := (intsF_eq hop hq).2
        rw [hv] at this
        cases this
        rfl
    · exact absurd rfl hne
  · exact absurd rfl hne

theorem shift_ok {e : Env} {dst : Option Tmp} {op : BinOp} {t : TypeId} {x y : Operand} {b type : TypeId} {pos : String} {after : Array Edge} {guard : Option (Nat × Bool)} (hop : isSh op = true) (hne : shiftV op (evl e x) (evl e y) ≠ .none) :
    int2A P e op (evl e x) (evl e y) ⟨dst, .binOp op t x y b, type, pos, after, guard⟩ = shiftV op (evl e x) (evl e y) := by
  unfold shiftV at hne ⊢
  unfold int2A
  split at hne
  · rename_i j a j' c hx hy
    obtain ⟨v, hv⟩ := valO_none hne
    simp only [hx, hy, hv]
    cases hq : intsF op j j' a c with
    | none =>
      simp only [orGen]
      refine genA_of (by simp [Op.operands, hx, hy, flat]) ?_ (flat_shift hv)
      rw [exec_bin, hx, hy, guard_int, Option.bind_some, pure_shift op hop, hv]
      rfl
    | some u =>
      have := shF_eq hop hq
      rw [hv] at this
      cases this
      rfl
  · exact absurd rfl hne

theorem str2_ok {e : Env} {dst : Option Tmp} {op : BinOp} {t : TypeId} {x y : Operand} {b type : TypeId} {pos : String} {after : Array Edge} {guard : Option (Nat × Bool)} (hne : str2V op (evl e x) (evl e y) ≠ .none) :
    genA P e ⟨dst, .binOp op t x y b, type, pos, after, guard⟩ = str2V op (evl e x) (evl e y) := by
  unfold str2V at hne ⊢
  split at hne
  · rename_i a c hx hy
    obtain ⟨v, hv⟩ := valO_none hne
    simp only [hx, hy, hv]
    refine genA_of (by simp [Op.operands, hx, hy, flat]) ?_ (flat_str hv)
    rw [exec_bin, hx, hy, guard_str, Option.bind_some, pure_str op, hv]
    rfl
  · exact absurd rfl hne

theorem equal_bool {t : TypeId} (ht : tyU P t = some .bool) (a b : Bool) : pureRun P (Op.equal t (.bool a) (.bool b)) = some (a == b) := by
  show pureRun P ((underlying t).bind fun d => _) = _
  rw [under_run ht]
  rfl

theorem eqb_ok {e : Env} {dst : Option Tmp} {t : TypeId} {x y : Operand} {b type : TypeId} {pos : String} {after : Array Edge} {guard : Option (Nat × Bool)} {neg : Bool} (ht : tyU P t = some .bool) (hne : eqbV neg (evl e x) (evl e y) ≠ .none) :
    genA P e ⟨dst, .binOp (if neg then .neq else .eql) t x y b, type, pos, after, guard⟩ = eqbV neg (evl e x) (evl e y) := by
  unfold eqbV at hne ⊢
  split at hne
  · rename_i a c hx hy
    try simp only [hx, hy]
    refine genA_of (by simp [Op.operands, hx, hy, flat]) ?_ rfl
    rw [exec_bin, hx, hy, guard_bool, Option.bind_some]
    cases neg
    · simp only [Bool.false_eq_true, if_false, binOp]
      show (pureRun P ((Op.equal t (.bool a) (.bool c)).bind fun r => Sem.pure (Value.bool r))).map Next.value = _
      rw [pureRun_bind', equal_bool ht]
      rfl
    · simp only [if_true, binOp]
      show (pureRun P ((Op.equal t (.bool a) (.bool c)).bind fun r => Sem.pure (Value.bool !r))).map Next.value = _
      rw [pureRun_bind', equal_bool ht]
      rfl
  · exact absurd rfl hne

theorem un_ok {e : Env} {dst : Option Tmp} {op : UnOp} {t : TypeId} {x : Operand} {type : TypeId} {pos : String} {after : Array Edge} {guard : Option (Nat × Bool)} (hne : unV op (evl e x) ≠ .none) :
    genA P e ⟨dst, .unOp op t x, type, pos, after, guard⟩ = unV op (evl e x) := by
  unfold unV at hne ⊢
  split at hne
  · rename_i b hx
    try simp only [hx]
    exact genA_of (by simp [Op.operands, hx, flat]) (by
      show pureRun P ((Op.unary .not (evl e x)).bind fun v => Sem.pure (Next.value v)) = _
      rw [hx]; rfl) rfl
  · rename_i k n hx
    try simp only [hx]
    exact genA_of (by simp [Op.operands, hx, flat]) (by
      show pureRun P ((Op.unary .neg (evl e x)).bind fun v => Sem.pure (Next.value v)) = _
      rw [hx]; rfl) rfl
  · rename_i k n hx
    try simp only [hx]
    exact genA_of (by simp [Op.operands, hx, flat]) (by
      show pureRun P ((Op.unary .xor (evl e x)).bind fun v => Sem.pure (Next.value v)) = _
      rw [hx]; rfl) rfl
  · exact absurd rfl hne

theorem conv_ok {e : Env} {dst : Option Tmp} {s d : TypeId} {x : Operand} {type : TypeId} {pos : String} {after : Array Edge} {guard : Option (Nat × Bool)} {j k : IntKind} (hs : tyU P s = some (.int j)) (hd : tyU P d = some (.int k)) (hne : convV k (evl e x) ≠ .none) :
    genA P e ⟨dst, .convert s d x, type, pos, after, guard⟩ = convV k (evl e x) := by
  unfold convV at hne ⊢
  split at hne
  · rename_i j' n hx
    try simp only [hx]
    exact genA_of (by simp [Op.operands, hx, flat]) (by
      show pureRun P ((convert s d (evl e x)).bind fun v => Sem.pure (Next.value v)) = _
      rw [hx, pureRun_bind']
      show (pureRun P ((underlying s).bind fun a => (underlying d).bind fun b => _)).bind _ = _
      rw [under_run hs, under_run hd]
      rfl) rfl
  · exact absurd rfl hne

theorem byte_at {s : ByteArray} {n : Nat} {b : UInt8} (hb : (bytesOf s)[n]? = some b) : s[n]? = some b := by
  obtain ⟨⟨l⟩⟩ := s
  simp only [bytesOf] at hb
  obtain ⟨h1, h2⟩ := List.getElem?_eq_some_iff.1 hb
  have h3 : n < (⟨⟨l⟩⟩ : ByteArray).size := h1
  exact (getElem?_pos (⟨⟨l⟩⟩ : ByteArray) n h3).trans (congrArg some h2)

theorem sidxV_inv {x j : Value} (hne : sidxV x j ≠ .none) : ∃ s k n b, x = .string s ∧ j = .int k n ∧ 0 ≤ n ∧ (bytesOf s)[n.toNat]? = some b ∧ sidxV x j = val (.int .u8 b.toNat) := by
  unfold sidxV at hne ⊢
  split at hne
  · rename_i s k n
    by_cases hn : 0 ≤ n
    · rw [if_pos hn] at hne ⊢
      cases hb : (bytesOf s)[n.toNat]? with
      | none => rw [hb] at hne; exact absurd rfl hne
      | some b => exact ⟨s, k, n, b, rfl, rfl, hn, hb, by simp only [hb]⟩
    · rw [if_neg hn] at hne; exact absurd rfl hne
  · exact absurd rfl hne

theorem sidx_ok {e : Env} {dst : Option Tmp} {t : TypeId} {x j : Operand} {type : TypeId} {pos : String} {after : Array Edge} {guard : Option (Nat × Bool)} (ht : tyU P t = some .string) (hne : sidxV (evl e x) (evl e j) ≠ .none) :
    genA P e ⟨dst, .index t x j, type, pos, after, guard⟩ = sidxV (evl e x) (evl e j) := by
  obtain ⟨s, k, n, b, hx, hj, hn, hb, hv⟩ := sidxV_inv hne
  rw [hv]
  exact genA_of (by simp [Op.operands, hx, hj, flat]) (by
    show pureRun P ((Instr.index t (evl e x) (evl e j)).bind fun v => Sem.pure (Next.value v)) = _
    rw [hx, hj, pureRun_bind']
    show (pureRun P ((underlying t).bind fun a => _)).bind _ = _
    rw [under_run ht]
    simp only [hn, if_true, byte_at hb]
    rfl) rfl

theorem slen_ok {e : Env} {dst : Option Tmp} {t : TypeId} {x : Operand} {args : Array Operand} {tys : Array TypeId} {type : TypeId} {pos : String} {after : Array Edge} {guard : Option (Nat × Bool)} (ha : args.toList = [x]) (h0 : tys[0]? = some t) (ht : tyU P t = some .string) (hne : slenV (evl e x) ≠ .none) :
    genA P e ⟨dst, .call ⟨.builtin .len, args, tys⟩, type, pos, after, guard⟩ = slenV (evl e x) := by
  have ha' : args = #[x] := by cases args; simp_all
  subst ha'
  unfold slenV at hne ⊢
  split at hne
  · rename_i s hx
    try simp only [hx]
    have h1 : pureRun P (Builtin.len_ tys type #[.string s]) = some (.int .i64 (bytesOf s).length) := by
      unfold Builtin.len_
      simp only [h0]
      show pureRun P ((underlying t).bind fun d => _) = _
      rw [under_run ht]
      rfl
    refine genA_of (by simp [Op.operands, Call.operands, hx, flat]) ?_ rfl
    have h2 : pureRun P (execOp (evl e) ⟨dst, .call ⟨.builtin .len, #[x], tys⟩, type, pos, after, guard⟩) = (pureRun P (Builtin.len_ tys type #[evl e x])).map Next.value := by
      simp only [execOp, resolve, pureRun_bind, pureRun_pure, Option.bind_some, invoke, builtin]
      have hm : (#[x].map (evl e)) = #[evl e x] := by simp
      rw [hm]
      cases pureRun P (Builtin.len_ tys type #[evl e x]) <;> rfl
    rw [h2, hx, h1]
    rfl
  · exact absurd rfl hne

theorem bound_ok (x : Value) (y : Nat) (code : BoundsCode) {k : IntKind} {n : Int} (hx : x = .int k n) (h : 0 ≤ n ∧ n ≤ y) : pureRun P (Instr.sliceBound x y code) = some n.toNat := by
  subst hx
  show pureRun P (if 0 ≤ n ∧ n ≤ y then pure n.toNat else boundsPanic k n y code) = _
  rw [if_pos h]
  rfl

theorem optInt_inv {d : Int} {v : Option Value} {n : Int} (h : sslV.optInt d v = some n) : (v = none ∧ d = n) ∨ ∃ k, v = some (.int k n) := by
  unfold sslV.optInt at h
  split at h
  · cases h; exact .inl ⟨rfl, rfl⟩
  · cases h; exact .inr ⟨_, rfl⟩
  · cases h

theorem sslV_inv {x : Value} {lo hi : Option Value} (hne : sslV x lo hi ≠ .none) : ∃ s l h, x = .string s ∧ sslV.optInt 0 lo = some l ∧ sslV.optInt (bytesOf s).length hi = some h ∧ 0 ≤ l ∧ l ≤ h ∧ h ≤ (bytesOf s).length ∧ sslV x lo hi = val (str (((bytesOf s).take h.toNat).drop l.toNat)) := by
  unfold sslV at hne ⊢
  split at hne
  · rename_i s
    cases hl : sslV.optInt 0 lo with
    | none => simp only [hl] at hne; exact absurd rfl hne
    | some l =>
      cases hh : sslV.optInt (bytesOf s).length hi with
      | none => simp only [hl, hh] at hne; exact absurd rfl hne
      | some h =>
        by_cases hb : 0 ≤ l ∧ l ≤ h ∧ h ≤ (bytesOf s).length
        · refine ⟨s, l, h, rfl, by first | exact hl | rfl, by first | exact hh | rfl, hb.1, hb.2.1, hb.2.2, ?_⟩
          simp only
          rw [if_pos hb]
        · first | (simp only [hl, hh] at hne) | (simp only at hne)
          rw [if_neg hb] at hne; exact absurd rfl hne
  · exact absurd rfl hne

theorem extract_eq (s : ByteArray) (l h : Nat) (hh : h ≤ (bytesOf s).length) : s.extract l h = ⟨⟨((bytesOf s).take h).drop l⟩⟩ := by
  apply ByteArray.ext
  rw [ByteArray.data_extract]
  apply Array.ext'
  rw [Array.toList_extract, List.extract_eq_take_drop, List.drop_take]

theorem ssl_ok {e : Env} {dst : Option Tmp} {t : TypeId} {x : Operand} {lo hi : Option Operand} {type : TypeId} {pos : String} {after : Array Edge} {guard : Option (Nat × Bool)} (ht : tyU P t = some .string) (hne : sslV (evl e x) (lo.map (evl e)) (hi.map (evl e)) ≠ .none) :
    genA P e ⟨dst, .slice t x lo hi none, type, pos, after, guard⟩ = sslV (evl e x) (lo.map (evl e)) (hi.map (evl e)) := by
  obtain ⟨s, l, h, hx, hl, hh, h1, h2, h3, hv⟩ := sslV_inv hne
  rw [hv]
  have hsz : s.size = (bytesOf s).length := by obtain ⟨⟨l⟩⟩ := s; rfl
  have hflo : (lo.toList.all fun x => flat (evl e x)) = true := by
    rcases optInt_inv hl with ⟨h4, _⟩ | ⟨k, h4⟩
    · cases lo with
      | none => rfl
      | some v => cases h4
    · cases lo with
      | none => rfl
      | some v => simp only [Option.map_some, Option.some.injEq] at h4; simp only [Option.toList_some, List.all_cons, h4, flat, List.all_nil, Bool.and_self]
  have hfhi : (hi.toList.all fun x => flat (evl e x)) = true := by
    rcases optInt_inv hh with ⟨h4, _⟩ | ⟨k, h4⟩
    · cases hi with
      | none => rfl
      | some v => cases h4
    · cases hi with
      | none => rfl
      | some v => simp only [Option.map_some, Option.some.injEq] at h4; simp only [Option.toList_some, List.all_cons, h4, flat, List.all_nil, Bool.and_self]
  have hhigh : pureRun P (match hi.map (evl e) with | some v => Instr.sliceBound v s.size .sliceAlen | none => pure s.size) = some h.toNat := by
    rcases optInt_inv hh with ⟨h4, h5⟩ | ⟨k, h4⟩
    · rw [h4, ← h5, hsz]; rfl
    · rw [h4]; exact bound_ok _ _ _ rfl ⟨by omega, by rw [hsz]; exact h3⟩
  have hlow : pureRun P (match lo.map (evl e) with | some v => Instr.sliceBound v h.toNat .sliceB | none => pure 0) = some l.toNat := by
    rcases optInt_inv hl with ⟨h4, h5⟩ | ⟨k, h4⟩
    · rw [h4, ← h5]; rfl
    · rw [h4]; exact bound_ok _ _ _ rfl ⟨h1, by omega⟩
  refine genA_of (by
    have h6 := hflo; have h7 := hfhi
    simp only [Op.operands, Array.toList_append, List.all_append, Option.toList_toArray, h6, h7, Bool.and_true, Bool.true_and, Option.toArray_none]
    simp [hx, flat]) ?_ rfl
  have hb : pureRun P (Instr.sliceBounds false s.size s.size (lo.map (evl e)) (hi.map (evl e)) none) = some (l.toNat, h.toNat, s.size) := by
    have h8 : pureRun P (Instr.sliceBounds false s.size s.size (lo.map (evl e)) (hi.map (evl e)) none) = (pureRun P (match hi.map (evl e) with | some v => Instr.sliceBound v s.size .sliceAlen | none => pure s.size)).bind fun h => (pureRun P (match lo.map (evl e) with | some v => Instr.sliceBound v h .sliceB | none => pure 0)).map fun l => (l, h, s.size) := by
      unfold Instr.sliceBounds
      generalize hi.map (evl e) = hv
      generalize lo.map (evl e) = lv
      cases hv with
      | none =>
        cases lv with
        | none => rfl
        | some v =>
          show pureRun P ((Instr.sliceBound v s.size .sliceB).bind fun l => Sem.pure (l, s.size, s.size)) = ((pureRun P (Instr.sliceBound v s.size .sliceB))).map _
          rw [pureRun_bind']
          cases pureRun P (Instr.sliceBound v s.size .sliceB) <;> rfl
      | some u =>
        cases lv with
        | none =>
          show pureRun P ((Instr.sliceBound u s.size .sliceAlen).bind fun h => Sem.pure (0, h, s.size)) = (pureRun P (Instr.sliceBound u s.size .sliceAlen)).bind fun h => _
          rw [pureRun_bind']
          rfl
        | some v =>
          show pureRun P ((Instr.sliceBound u s.size .sliceAlen).bind fun h => (Instr.sliceBound v h .sliceB).bind fun l => Sem.pure (l, h, s.size)) = (pureRun P (Instr.sliceBound u s.size .sliceAlen)).bind fun h => (pureRun P (Instr.sliceBound v h .sliceB)).map _
          rw [pureRun_bind']
          congr 1
          funext h
          rw [pureRun_bind']
          cases pureRun P (Instr.sliceBound v h .sliceB) <;> rfl
    rw [h8, hhigh, Option.bind_some, hlow]
    rfl
  show pureRun P ((Instr.sliceAt t (evl e x) (lo.map (evl e)) (hi.map (evl e)) none).bind fun v => Sem.pure (Next.value v)) = _
  rw [hx, pureRun_bind']
  show (pureRun P ((underlying t).bind fun a => _)).bind _ = _
  rw [under_run ht]
  show (pureRun P ((underlying t).bind fun a => _)).bind _ = _
  rw [under_run ht]
  simp only [Option.isSome_none, Bool.false_eq_true, if_false]
  show (pureRun P ((Instr.sliceBounds false s.size s.size (lo.map (evl e)) (hi.map (evl e)) none).bind fun r => _)).bind _ = _
  rw [pureRun_bind', hb, Option.bind_some]
  show some (Next.value (.string (s.extract l.toNat h.toNat))) = _
  rw [extract_eq s l.toNat h.toNat (by omega)]

theorem guard_agg {op : BinOp} {t : TypeId} (hg : P.eqGuardType P.depth t = false) (x y : Operand) (xs ys : Array Value) : pureRun P (eqGuard op t x y (.agg xs) (.agg ys)) = some () := by
  unfold eqGuard
  cases op <;> first
    | rfl
    | (show pureRun P ((program).bind fun p => _) = _
       rw [pureRun_bind']
       simp only [program, pureRun, Option.bind_some]
       show pureRun P ((Sem.program Sem.pure).bind fun q => _) = _
       rw [pureRun_bind']
       simp only [pureRun, Option.bind_some, hg]
       rfl)

theorem flat_fits {ks : List AK} : ∀ {xs : List Value}, fitsL ks xs = true → flat (.agg ⟨xs⟩) = true := by
  induction ks with
  | nil => intro xs h; cases xs with | nil => rfl | cons v l => cases h
  | cons k r ih =>
    intro xs h
    cases xs with
    | nil => cases h
    | cons v l =>
      simp only [fitsL, Bool.and_eq_true] at h
      have h2 : flatL l = true := ih h.2
      have h1 : flat v = true := by
        cases k with
        | int k => obtain ⟨n, rfl⟩ := fits_int h.1; rfl
        | str => obtain ⟨n, rfl⟩ := fits_str h.1; rfl
        | bool => obtain ⟨n, rfl⟩ := fits_bool h.1; rfl
      show (flat v && flatL l) = true
      rw [h1, h2]
      rfl

theorem eqc_ok {e : Env} {dst : Option Tmp} {t : TypeId} {x y : Operand} {b type : TypeId} {pos : String} {after : Array Edge} {guard : Option (Nat × Bool)} {neg : Bool} {ks : List AK} {d : TypeDesc} (ht : tyU P t = some d) (hd : isAggD d = true) (hg : P.eqGuardType P.depth t = false) (hks : atomsT P 12 t = some ks) (hne : eqcV neg ks (evl e x) (evl e y) ≠ .none) :
    genA P e ⟨dst, .binOp (if neg then .neq else .eql) t x y b, type, pos, after, guard⟩ = eqcV neg ks (evl e x) (evl e y) := by
  unfold eqcV at hne ⊢
  split at hne
  · rename_i xs ys hx hy
    split at hne
    · rename_i hf
      simp only [Bool.and_eq_true] at hf
      have hq : pureRun P (Op.equal t (.agg ⟨xs⟩) (.agg ⟨ys⟩)) = some (eqL xs ys) := equal_ok 12 t ks hks 10000 (by omega) xs ys _ _ ⟨d, ht, .inl ⟨hd, rfl⟩⟩ ⟨d, ht, .inl ⟨hd, rfl⟩⟩ hf.1 hf.2
      simp only [hx, hy, hf.1, hf.2, Bool.and_self, if_true]
      refine genA_of (by simp [Op.operands, hx, hy, flat_fits hf.1, flat_fits hf.2]) ?_ rfl
      rw [exec_bin, hx, hy, guard_agg hg, Option.bind_some]
      cases neg
      · simp only [Bool.false_eq_true, if_false, binOp]
        show (pureRun P ((Op.equal t (.agg ⟨xs⟩) (.agg ⟨ys⟩)).bind fun r => Sem.pure (Value.bool r))).map Next.value = _
        rw [pureRun_bind', hq]
        rfl
      · simp only [if_true, binOp]
        show (pureRun P ((Op.equal t (.agg ⟨xs⟩) (.agg ⟨ys⟩)).bind fun r => Sem.pure (Value.bool !r))).map Next.value = _
        rw [pureRun_bind', hq]
        rfl
    · exact absurd rfl hne
  · exact absurd rfl hne

theorem evls_map (e : Env) (l : List Operand) : evls e l = l.map (evl e) := by
  induction l with
  | nil => rfl
  | cons x l ih => show evl e x :: evls e l = _; rw [ih]; rfl

theorem mm_min {k : IntKind} : ∀ (r : List Value) (n : Int) (v : Value), mmI false k r n = some v → pureRun P (r.foldlM Builtin.min2 (.int k n)) = some v ∧ ∃ m, v = .int k m := by
  intro r
  induction r with
  | nil => intro n v h; cases h; exact ⟨rfl, _, rfl⟩
  | cons a r ih =>
    intro n v h
    cases a with
    | int j y =>
      rw [List.foldlM_cons, pureRun_bind]
      show (pureRun P (Builtin.min2 (.int k n) (.int j y))).bind _ = _ ∧ _
      exact ih _ v h
    | _ => cases h

theorem mm_max {k : IntKind} : ∀ (r : List Value) (n : Int) (v : Value), mmI true k r n = some v → pureRun P (r.foldlM Builtin.max2 (.int k n)) = some v ∧ ∃ m, v = .int k m := by
  intro r
  induction r with
  | nil => intro n v h; cases h; exact ⟨rfl, _, rfl⟩
  | cons a r ih =>
    intro n v h
    cases a with
    | int j y =>
      rw [List.foldlM_cons, pureRun_bind]
      show (pureRun P (Builtin.max2 (.int k n) (.int j y))).bind _ = _ ∧ _
      exact ih _ v h
    | _ => cases h

theorem mm_flat {mx : Bool} {k : IntKind} : ∀ (r : List Value) (n : Int) (v : Value), mmI mx k r n = some v → ∀ u ∈ r, flat u = true := by
  intro r
  induction r with
  | nil => intro n v h u hu; cases hu
  | cons a r ih =>
    intro n v h u hu
    cases a with
    | int j y =>
      rcases List.mem_cons.1 hu with rfl | hu
      · rfl
      · exact ih _ v h u hu
    | _ => cases h

theorem mm_ok {e : Env} {dst : Option Tmp} {b : Builtin} {mx : Bool} {x : Operand} {r : List Operand} {args : Array Operand} {tys : Array TypeId} {type : TypeId} {pos : String} {after : Array Edge} {guard : Option (Nat × Bool)} (hb : (b = .max ∧ mx = true) ∨ (b = .min ∧ mx = false)) (ha : args.toList = x :: r) (hne : mmV mx (evl e x) (evls e r) ≠ .none) :
    genA P e ⟨dst, .call ⟨.builtin b, args, tys⟩, type, pos, after, guard⟩ = mmV mx (evl e x) (evls e r) := by
  have ha' : args = ⟨x :: r⟩ := by cases args; simp_all
  subst ha'
  rw [evls_map] at hne ⊢
  unfold mmV at hne ⊢
  split at hne
  · rename_i k n hx
    obtain ⟨v, hv⟩ := valO_none hne
    rw [hv]
    have hfl : (x :: r).all (fun x => flat (evl e x)) = true := by
      rw [List.all_cons, hx]
      show (true && _) = true
      rw [Bool.true_and, List.all_eq_true]
      intro y hy
      exact mm_flat _ _ _ hv _ (List.mem_map_of_mem hy)
    have hm : (⟨x :: r⟩ : Array Operand).map (evl e) = ⟨evl e x :: r.map (evl e)⟩ := by simp
    rcases hb with ⟨rfl, rfl⟩ | ⟨rfl, rfl⟩
    · obtain ⟨h1, m, hm'⟩ := mm_max (P := P) _ _ _ hv
      refine genA_of (by simpa [Op.operands, Call.operands] using hfl) ?_ (by rw [hm']; rfl)
      simp only [execOp, resolve, pureRun_bind, pureRun_pure, Option.bind_some, invoke, builtin, hm, hx]
      show (pureRun P ((r.map (evl e)).foldlM Builtin.max2 (.int k n))).bind _ = _
      rw [h1]; rfl
    · obtain ⟨h1, m, hm'⟩ := mm_min (P := P) _ _ _ hv
      refine genA_of (by simpa [Op.operands, Call.operands] using hfl) ?_ (by rw [hm']; rfl)
      simp only [execOp, resolve, pureRun_bind, pureRun_pure, Option.bind_some, invoke, builtin, hm, hx]
      show (pureRun P ((r.map (evl e)).foldlM Builtin.min2 (.int k n))).bind _ = _
      rw [h1]; rfl
  · exact absurd rfl hne

end
end Go.Den
