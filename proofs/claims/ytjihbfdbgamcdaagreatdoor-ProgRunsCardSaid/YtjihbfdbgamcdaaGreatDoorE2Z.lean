/-
  THE ENGINE, part Z: texts out of rows of bytes that are frozen; pointers that pass for untyped ones.
-/
import Derived.Test.YtjihbfdbgamcdaaGreatDoorE2N
namespace Go.Den
noncomputable section

variable {P : Program}

/- READING BYTES -/

theorem loadBytes_run {w : World} {k : Nat} : ∀ (l : List Value) (off : Nat) (acc : ByteArray), (∀ (j : Nat) (v : Value), l[j]? = some v → w.cell? ⟨k, off + j, none⟩ = some v) → (∀ v ∈ l, isU8 v = true) →
    (loadBytes ⟨k, off, none⟩ acc l.length).run P w = .ok ⟨acc.data ++ (l.map toU8).toArray⟩ w := by
  intro l
  induction l with
  | nil => intro off acc _ _; simp [loadBytes]
  | cons v l ih =>
    intro off acc h hu
    have h0 := h 0 v (by simp)
    rw [Nat.add_zero] at h0
    have hv := hu v (by simp)
    unfold isU8 at hv
    split at hv
    · rename_i n
      have hstep := ih (off + 1) (acc.push (Int.toNat (.ofNat n)).toUInt8) (fun j x hx => by
        have := h (j + 1) x (by simpa using hx)
        rwa [show off + 1 + j = off + (j + 1) by omega]) fun x hx => hu x (by simp [hx])
      simp only [List.length_cons, loadBytes]
      rw [Sem.run_bind]
      have hl : (load ⟨k, off, none⟩).run P w = .ok (.int .u8 (.ofNat n)) w := by simp [load, Sem.run, h0]
      rw [hl, Result.andThen_ok]
      simp only
      rw [addr_add, hstep]
      congr 1
      simp only [List.map_cons, ByteArray.push, toU8]
      congr 1
      simp
    · cases hv

/- FREEZING -/

def iced (off n : Nat) : Obj → Obj
  | .cells c elem (lo, hi) => .cells c elem (if lo == hi then (off, off + n) else (min lo off, max hi (off + n)))
  | o => o

theorem ice_get (w : World) (k off n r : Nat) (hn : n ≠ 0) : (w.freeze ⟨k, off, none⟩ n).heap[r]? = if k = r then (w.heap[r]?).map (iced off n) else w.heap[r]? := by
  unfold World.freeze
  rw [if_neg hn]
  simp only [Array.getElem?_modify]
  split
  · rename_i h
    cases w.heap[r]? with
    | none => rfl
    | some o => cases o <;> rfl
  · rfl

theorem ice_shape (w : World) (k off n r : Nat) (hn : n ≠ 0) : (w.freeze ⟨k, off, none⟩ n).shape? r = w.shape? r := by
  unfold World.shape?
  rw [ice_get w k off n r hn]
  by_cases hkr : k = r
  · rw [if_pos hkr]
    cases w.heap[r]? with
    | none => rfl
    | some o => cases o <;> rfl
  · rw [if_neg hkr]

theorem ice_cell (w : World) (k off n : Nat) (a : Addr) (hn : n ≠ 0) : (w.freeze ⟨k, off, none⟩ n).cell? a = w.cell? a := by
  unfold World.cell?
  rw [ice_get w k off n _ hn]
  by_cases hkr : k = a.block
  · rw [if_pos hkr]
    cases w.heap[a.block]? with
    | none => rfl
    | some o => cases o <;> rfl
  · rw [if_neg hkr]

theorem ice_size (w : World) (k off n : Nat) : (w.freeze ⟨k, off, none⟩ n).heap.size = w.heap.size := by
  unfold World.freeze
  split
  · rfl
  · simp

/-- Bytes of a row are frozen: the heap says so. -/
theorem ice_rel {ρ : Ren} {B : Nat} {H : AH} {w : World} (hR : Rel ρ B H w) {id ver : Nat} {l : Loc} {b : CBlk} (hl : ρ id ver = some l) (hb : H.get id = some (.cells b)) (hm : b.mark = false) (hid : okKey id = true) (off n : Nat) (hn : n ≠ 0) :
    Rel ρ B (H.set id (.cells { b with frz := max b.frz (off + n) })) (w.freeze ⟨l.block, off, none⟩ n) ∧ Ext ρ H w ρ (H.set id (.cells { b with frz := max b.frz (off + n) })) (w.freeze ⟨l.block, off, none⟩ n) := by
  refine Rel.write hR (.refl ρ) (fun _ _ _ h => .inl h) hb hid (by rw [ice_size]; exact Nat.le_refl _) ?_ ?_ ?_ (fun _ _ _ h => .inl h) (fun ver' l' i v h1 h2 _ => by rw [ice_cell _ _ _ _ _ hn]; exact hR.fz.cell _ _ _ h2) (fun _ _ h => Nat.lt_of_lt_of_le h (Nat.le_max_left _ _)) (fun _ _ _ _ _ _ _ _ _ h => h) ?_
  · intro c _ himg
    rw [ice_get w _ off n c hn, if_neg (himg _ _ hl)]
  · intro ver' l' hl'
    obtain ⟨h1, h2⟩ := hR.blk _ _ _ _ hl' hb
    refine ⟨h1, fun hv => ?_⟩
    have hc := h2 hv
    obtain ⟨N, s1, s2, s3, s4⟩ := hc.shape
    have hhi := hc.hi hm
    have hhi' : hiOf (w.freeze ⟨l.block, off, none⟩ n) l'.block ≤ max b.frz (off + n) := by
      unfold hiOf at hhi ⊢
      rw [ice_get w _ off n _ hn]
      by_cases hkr : l.block = l'.block
      · rw [if_pos hkr]
        cases hq : w.heap[l'.block]? with
        | none => simp
        | some o =>
          rw [hq] at hhi
          cases o with
          | cells c el fz =>
            obtain ⟨lo, hi⟩ := fz
            simp only [Option.map_some, iced]
            simp only at hhi
            split <;> simp only <;> omega
          | _ => simp [iced]
      · rw [if_neg hkr]; omega
    refine ⟨⟨N, by rw [ice_shape _ _ _ _ _ hn]; exact s1, s2, s3, fun i hi _ => ?_⟩, fun i v hi hiv => ?_, hc.esz, fun _ => hhi'⟩
    · unfold hiOf at hhi'
      unfold World.frozen?
      simp only at hi ⊢
      cases hq : (w.freeze ⟨l.block, off, none⟩ n).heap[l'.block]? with
      | none => rfl
      | some o =>
        rw [hq] at hhi'
        cases o with
        | cells c el fz =>
          obtain ⟨lo, hh⟩ := fz
          simp only at hhi' ⊢
          have : ¬ i < hh := by omega
          simp [this]
        | _ => rfl
    · obtain ⟨v', g1, g2⟩ := hc.vals i v hi hiv
      exact ⟨v', by rw [ice_cell _ _ _ _ _ hn]; exact g1, g2⟩
  · intro c hc
    cases hc
    have := hR.wf _ _ hb
    exact ⟨this.lens, this.wver, this.pf⟩
  · unfold World.freeze
    split <;> exact ⟨rfl, rfl⟩

/- TEXTS -/

theorem lies_bytes {t u : TypeId} (h : byteRow P t u = true) {N off n : Nat} (hle : off + n ≤ N) : liesAt P P.depth t (N / P.cellsOf t) off u n = true := by
  unfold byteRow at h
  simp only [Bool.and_eq_true, Nat.beq_eq, Nat.blt_eq] at h
  obtain ⟨h1, h2, h3⟩ := h
  obtain ⟨d, hd⟩ : ∃ d, P.depth = d + 1 := ⟨P.depth - 1, by omega⟩
  have key : rowAt P (sameLayout P P.depth · u) P.depth t (N / P.cellsOf t) off n = true := by
    have : rowAt P (sameLayout P P.depth · u) (d + 1) t (N / P.cellsOf t) off n = true := by
      unfold rowAt
      simp only [h1, h3, Nat.div_one, Nat.mod_one]
      simp [hle]
    rwa [← hd] at this
  have : liesAt P (d + 1) t (N / P.cellsOf t) off u n = true := by
    unfold liesAt
    simp only [key, Bool.true_or]
  rw [← hd] at this
  exact this

/-- Bytes of a row that may grow are frozen: nobody will write them. -/
theorem ice_tok {ρ : Ren} {B : Nat} {H : AH} {w : World} (hR : Rel ρ B H w) {t m : Nat} {l : Loc} {elem : TypeId} {esz : Nat} (hl : ρ t m = some l) (hb : H.get t = some (.tok m elem esz)) {n : Nat} (hn : n ≠ 0) (hle : n ≤ m * l.esz) :
    Rel ρ B H (w.freeze ⟨l.block, 0, none⟩ n) ∧ Ext ρ H w ρ H (w.freeze ⟨l.block, 0, none⟩ n) := by
  have hsize := ice_size w l.block 0 n
  have hother : ∀ r, r ≠ l.block → (w.freeze ⟨l.block, 0, none⟩ n).heap[r]? = w.heap[r]? := fun r hr => by rw [ice_get w _ 0 n _ hn, if_neg (fun e => hr e.symm)]
  refine ⟨⟨?_, hR.wf, hR.low, hR.sep, fun id ver x h => by rw [hsize]; exact hR.bnd id ver x h, by rw [hsize]; exact hR.base, ⟨fun b i v h => by rw [ice_cell _ _ _ _ _ hn]; exact hR.fz.cell b i v h, hR.fz.sep⟩⟩, ?_⟩
  · intro id ver x b hx hbx
    by_cases he : x.block = l.block
    · have hid := hR.sep _ _ _ _ _ _ hx hl he
      subst hid
      rw [hb] at hbx
      cases hbx
      obtain ⟨h1, h2, h3⟩ := hR.blk _ _ _ _ hx hb
      refine ⟨h1, h2, fun hv => ?_⟩
      subst hv
      rw [hl] at hx
      cases hx
      have hk := h3 rfl
      have hhi : hiOf (w.freeze ⟨l.block, 0, none⟩ n) l.block ≤ ver * l.esz := by
        have h0 := hk.hi
        unfold hiOf at h0 ⊢
        rw [ice_get w _ 0 n _ hn, if_pos rfl]
        cases hq : w.heap[l.block]? with
        | none => exact Nat.zero_le _
        | some o =>
          rw [hq] at h0
          cases o with
          | cells c el fz =>
            obtain ⟨lo, hi⟩ := fz
            simp only [Option.map_some, iced]
            simp only at h0
            split <;> simp only <;> omega
          | _ => exact Nat.zero_le _
      refine ⟨by rw [ice_shape _ _ _ _ _ hn]; exact hk.shape, hk.le, fun i hi _ => ?_, hhi⟩
      unfold hiOf at hhi
      unfold World.frozen?
      simp only at hi ⊢
      cases hq : (w.freeze ⟨l.block, 0, none⟩ n).heap[l.block]? with
      | none => rfl
      | some o =>
        rw [hq] at hhi
        cases o with
        | cells c el fz =>
          obtain ⟨lo, hh⟩ := fz
          simp only at hhi ⊢
          have : ¬ i < hh := by omega
          simp [this]
        | _ => rfl
    · exact (hR.blk _ _ _ _ hx hbx).keep (.refl ρ) (hother _ he)
  · refine ⟨.refl ρ, by rw [hsize]; exact Nat.le_refl _, fun b _ himg => hother b fun e => himg t m l (by rw [hb]; rfl) hl e.symm, fun id ver x h h' => (by rw [h] at h'; cases h'), fun id ver x h h' => (by rw [h] at h'; cases h'), Nat.le_refl _, fun _ h => h, fun _ h => .inl h, ?_, fun _ _ _ h => .inl h⟩
    unfold World.freeze
    split <;> exact ⟨rfl, rfl⟩

theorem ustr_zero {at_ : Array TypeId} {ty pt : TypeId} (h1 : at_[0]? = some pt) (p : Option Addr) (k : IntKind) (w : World) : (Builtin.unsafeString_ at_ ty #[.pointer p, .int k 0]).run P w = .ok (.string .empty) w := by
  conv in (Builtin.unsafeString_ _ _ _) => whnf
  have c2 : ¬ (0 : Int) > IntKind.i64.max := by decide
  cases p <;> simp [h1, c2]

theorem ustr_run {at_ : Array TypeId} {ty pt u : TypeId} (h1 : at_[0]? = some pt) {a : Addr} {k : IntKind} {n : Nat} {s : ByteArray} {w : World} (helem : (elemOf pt).run P w = .ok u w) (hn : 0 < n) (hmax : n ≤ 9223372036854775807)
    (hvar : (variablesAt a u n).run P w = .ok true w) (hload : (loadBytes a .empty n).run P w = .ok s w) : (Builtin.unsafeString_ at_ ty #[.pointer (some a), .int k (n : Int)]).run P w = .ok (.string s) (w.freeze a n) := by
  conv in (Builtin.unsafeString_ _ _ _) => whnf
  have c1 : ¬ (n : Int) < 0 := by omega
  have c2 : ¬ (n : Int) > IntKind.i64.max := by
    have : IntKind.i64.max = 9223372036854775807 := by decide
    rw [this]; omega
  have c3 : ¬ (n : Int) = 0 := by omega
  have c4 : ((n : Int)).toNat = n := by omega
  simp only [h1, c1, c2, c3, if_false, c4, Sem.run_bind, Sem.run_pure, Result.andThen_ok, helem, hvar, if_true, hload]
  simp [freeze, Sem.run]

theorem ustr_sound {ρ : Ren} {B : Nat} {H : AH} {w : World} (hR : Rel ρ B H w) {at_ : Array TypeId} {ty pt u : TypeId} (h1 : at_[0]? = some pt) (h2 : tyU P pt = some (.pointer u)) {fresh : Nat} {x x' y y' : Value} (hx : VR ρ x x') (hy : VR ρ y y') :
    ResOK P ρ B H w (vNext (Builtin.unsafeString_ at_ ty #[x', y'])) fresh (ustrA P H u x (asNat y)) := by
  have helem : (elemOf pt).run P w = .ok u w := by simp [elemOf, Sem.run_bind, run_under h2]
  cases hn : asNat y with
  | none => trivial
  | some n =>
    obtain ⟨k, e1⟩ := asNat_some hn
    rw [e1] at hy
    have e2 := hy.int_inv
    subst e2
    cases n with
    | zero =>
      simp only [ustrA]
      split
      · rename_i p
        have hp : ∃ p', x' = .pointer p' := by
          cases p with
          | none => exact ⟨none, hx.of_flat rfl⟩
          | some a => obtain ⟨l, _, g2⟩ := hx.ptr_inv; exact ⟨_, g2⟩
        obtain ⟨p', rfl⟩ := hp
        refine .val (v' := .string ⟨#[]⟩) ?_ (.flat rfl)
        rw [run_vNext]
        have := ustr_zero (P := P) (ty := ty) h1 p' k w
        rw [show ((0 : Nat) : Int) = 0 from rfl, this]
        rfl
      · trivial
    | succ n =>
      simp only [ustrA]
      split
      · rename_i a
        split
        · rename_i b hb
          cases hq : (byteRow P b.elem u && Nat.ble (n + 1) 9223372036854775807) with
          | false => rw [cond_false]; trivial
          | true =>
            rw [cond_true]
            simp only [Bool.and_eq_true, Nat.ble_eq] at hq
            obtain ⟨q1, q2⟩ := hq
            unfold ustrOf
            cases hq2 : ((slotsOf b.cells a.off (n + 1)).all isU8 && (!b.mark && okKey a.block)) with
            | false => rw [cond_false]; trivial
            | true =>
              rw [cond_true, forceN_eq]
              simp only [Bool.and_eq_true, Bool.not_eq_true'] at hq2
              obtain ⟨q3, q4, q5⟩ := hq2
              obtain ⟨l, g1, g2⟩ := hx.ptr_inv
              subst g2
              obtain ⟨r1, r2, r3, r4⟩ := rdBlk_some hb
              have hC := rd_rel hR hb g1
              obtain ⟨N, s1, s2, s3, s4⟩ := hC.shape
              have hlen := rd_len hR hb
              have hN : a.off + (n + 1) ≤ N := by
                by_cases hz : b.lens = []
                · have := s2 hz; omega
                · have := (s3 hz).2; omega
              have hall := list_all q3
              have hsl : (slotsOf b.cells a.off (n + 1)).length = n + 1 := by simp [slotsOf]; omega
              have hcells : ∀ (j : Nat) (v : Value), (slotsOf b.cells a.off (n + 1))[j]? = some v → w.cell? ⟨l.block, a.off + j, none⟩ = some v := by
                intro j v hv
                have hj : j < n + 1 := by
                  rcases Nat.lt_or_ge j (n + 1) with h | h
                  · exact h
                  · rw [List.getElem?_eq_none (by omega)] at hv; cases hv
                obtain ⟨z, z', t1, t2, t3⟩ := rd_cell hR hb g1 j hj
                have hz : z = v := by
                  simp only [slotsOf, List.getElem?_take, List.getElem?_drop, if_pos hj] at hv
                  rw [t1] at hv
                  exact Option.some.inj hv
                subst hz
                have hu := hall z (List.mem_of_getElem? hv)
                have hf : flat z = true := by
                  unfold isU8 at hu
                  split at hu
                  · rfl
                  · cases hu
                rw [t2, t3.of_flat hf]
              have hload := loadBytes_run (P := P) (slotsOf b.cells a.off (n + 1)) a.off .empty hcells hall
              rw [hsl] at hload
              intro _
              obtain ⟨i1, i2⟩ := ice_rel hR g1 r1 q4 q5 a.off (n + 1) (by omega)
              refine ⟨.value (.string ⟨((slotsOf b.cells a.off (n + 1)).map toU8).toArray⟩), _, w.freeze ⟨l.block, a.off, none⟩ (n + 1), ρ, ?_, rfl, .flat rfl, i1, i2⟩
              have hvar : (variablesAt ⟨l.block, a.off, none⟩ u (n + 1)).run P w = .ok true w := by
                have := lies_bytes q1 hN
                simp [variablesAt, program, shape, Sem.run, s1, this]
              have hrun : (Builtin.unsafeString_ at_ ty #[.pointer (some ⟨l.block, a.off, none⟩), .int k ((n + 1 : Nat) : Int)]).run P w = .ok (.string ⟨((slotsOf b.cells a.off (n + 1)).map toU8).toArray⟩) (w.freeze ⟨l.block, a.off, none⟩ (n + 1)) := by
                have hemp : (⟨ByteArray.empty.data ++ ((slotsOf b.cells a.off (n + 1)).map toU8).toArray⟩ : ByteArray) = ⟨((slotsOf b.cells a.off (n + 1)).map toU8).toArray⟩ := by
                  congr 1
                  simp [ByteArray.empty, ByteArray.emptyWithCapacity]
                  try rfl
                rw [hemp] at hload
                exact ustr_run h1 helem (by omega) q2 hvar hload
              rw [run_vNext, hrun]
              rfl
        · trivial
      · unfold ustrF
        cases hq : asOP x with
        | none => trivial
        | some p =>
          obtain ⟨t, m, cs⟩ := p
          have h0 : x = OP t m cs := asOP_some hq
          subst h0
          obtain ⟨l, f, g1, g2, g3, g4, g5⟩ := hx.optr_inv
          subst g3
          show ResOK P ρ B H w _ fresh (ustrB P H u (n + 1) m cs (H.get t))
          unfold ustrB
          split
          · rename_i kk elem esz hb
            cases hc : (Nat.beq kk m && (Nat.beq esz 1 && (Nat.ble (n + 1) m && (byteRow P elem u && (Nat.ble (n + 1) 9223372036854775807 && (cs.take (n + 1)).all isU8))))) with
            | false => rw [cond_false]; trivial
            | true =>
              rw [cond_true]
              simp only [Bool.and_eq_true, Nat.beq_eq, Nat.ble_eq] at hc
              obtain ⟨c1, c2, c3, c4, c5, c6⟩ := hc
              subst c1 c2
              obtain ⟨b1, b2, b3⟩ := hR.blk _ _ _ _ g1 hb
              have hk := b3 rfl
              rw [b2, Nat.mul_one] at g2
              have hle := hk.le
              have hall := list_all c6
              have hsl : (cs.take (n + 1)).length = n + 1 := by rw [List.length_take]; omega
              have hcells : ∀ (j : Nat) (v : Value), (cs.take (n + 1))[j]? = some v → w.cell? ⟨l.block, 0 + j, none⟩ = some v := by
                intro j v hv
                have hj : j < n + 1 := by
                  rcases Nat.lt_or_ge j (n + 1) with h | h
                  · exact h
                  · rw [List.getElem?_eq_none (by omega)] at hv; cases hv
                rw [List.getElem?_take, if_pos hj] at hv
                have t1 := hR.fz.cell _ _ _ (g4 j (by omega))
                have t2 := (g5 j v hv)
                have hu := hall v (List.mem_of_getElem? (show (cs.take (n + 1))[j]? = some v by rw [List.getElem?_take, if_pos hj]; exact hv))
                rw [t2.of_flat (flat_u8 hu)] at t1
                rw [Nat.zero_add]
                exact t1
              have hload := loadBytes_run (P := P) (cs.take (n + 1)) 0 .empty hcells hall
              rw [hsl] at hload
              intro _
              obtain ⟨i1, i2⟩ := ice_tok hR g1 hb (n := n + 1) (by omega) (by rw [b2]; omega)
              refine ⟨.value (.string ⟨((cs.take (n + 1)).map toU8).toArray⟩), _, w.freeze ⟨l.block, 0, none⟩ (n + 1), ρ, ?_, rfl, .flat rfl, i1, i2⟩
              have hvar : (variablesAt ⟨l.block, 0, none⟩ u (n + 1)).run P w = .ok true w := by
                have := lies_bytes (off := 0) (n := n + 1) (N := l.cap * l.esz) c4 (by rw [b2]; omega)
                simp [variablesAt, program, shape, Sem.run, hk.shape, this]
              have hrun : (Builtin.unsafeString_ at_ ty #[.pointer (some ⟨l.block, 0, none⟩), .int k ((n + 1 : Nat) : Int)]).run P w = .ok (.string ⟨((cs.take (n + 1)).map toU8).toArray⟩) (w.freeze ⟨l.block, 0, none⟩ (n + 1)) := by
                have hemp : (⟨ByteArray.empty.data ++ ((cs.take (n + 1)).map toU8).toArray⟩ : ByteArray) = ⟨((cs.take (n + 1)).map toU8).toArray⟩ := by
                  congr 1
                  simp [ByteArray.empty, ByteArray.emptyWithCapacity]
                  try rfl
                rw [hemp] at hload
                exact ustr_run h1 helem (by omega) c5 hvar hload
              rw [run_vNext, hrun]
              rfl
          · trivial

end
end Go.Den
