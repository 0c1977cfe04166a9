/-
  THE ENGINE, part M: appending, copying.
-/
import Derived.Test.YtjihbfdbgamcdaaGreatDoorE2L
namespace Go.Den
noncomputable section

variable {P : Program}

theorem lenA_run {ρ : Ren} {x x' : Value} {n : Nat} (hv : VR ρ x x') (h : lenA x = some n) (w : World) : (Builtin.lenOf x').run P w = .ok n w := by
  unfold lenA at h
  split at h
  · rename_i a m c
    cases h
    cases a with
    | none => rw [hv.of_flat rfl]; rfl
    | some a => obtain ⟨_, _, rfl⟩ := hv.slice_len; rfl
  · rename_i s
    cases h
    rw [hv.string_inv]
    simp [Builtin.lenOf]
  · unfold lenAF at h
    split at h
    · rename_i q hq
      cases h
      obtain ⟨_, _, rfl⟩ := hv.row_len hq
      rfl
    · cases h

/-- The first elements of a slice or a text. -/
theorem elems_run {ρ : Ren} {B : Nat} {H : AH} {w : World} (hR : Rel ρ B H w) {size n : Nat} {x x' : Value} {l : List Value} (hv : VR ρ x x') (h : elemsA H size n x = some l) :
    l.length = n * size ∧ ∀ w2 : World, w2.heap = w.heap → ∃ cs : Array Value, (Builtin.firstCells size n x').run P w2 = .ok cs w2 ∧ VRL ρ l cs.toList := by
  have fl : elemsF size n (asFL x) = some l → l.length = n * size ∧ ∀ w2 : World, w2.heap = w.heap → ∃ cs : Array Value, (Builtin.firstCells size n x').run P w2 = .ok cs w2 ∧ VRL ρ l cs.toList := by
    intro h
    unfold elemsF at h
    split at h
    · rename_i q hq
      cases hc : (Nat.ble n q.1 && (Nat.blt 0 n && Nat.ble (n * size) q.2.length)) with
      | false => rw [hc, cond_false] at h; cases h
      | true =>
        rw [hc, cond_true] at h
        cases h
        simp only [Bool.and_eq_true, Nat.ble_eq, Nat.blt_eq] at hc
        rcases hv.row_inv hq with ⟨_, _, h0, _⟩ | ⟨b, o, c', f, g1, _, g2, g3⟩
        · omega
        · refine ⟨by simp; omega, fun w2 h2 => ?_⟩
          obtain ⟨arr, k1, k2⟩ := run_load_fz (P := P) (off := 0) (n := n * size) hR g2 g3 (by omega) h2
          have e0 : slotsOf q.2 0 (n * size) = q.2.take (n * size) := by simp [slotsOf]
          rw [e0] at k2
          exact ⟨arr, by rw [g1]; exact k1, k2⟩
    · cases h
  cases x with
  | slice a len c =>
    cases a with
    | none => simp [elemsA, asFL, elemsF] at h
    | some a =>
      obtain ⟨loc, c', rfl, h1, h2, h3⟩ := elems_slice (P := P) hR hv h
      exact ⟨h2, fun w2 hw => h3 w2 hw⟩
  | func fn f c => exact fl h
  | string s =>
    rw [hv.string_inv]
    simp only [elemsA] at h
    cases hq : (Nat.beq size 1 && Nat.ble n s.data.toList.length) with
    | false => rw [hq, cond_false] at h; cases h
    | true =>
      rw [hq, cond_true] at h
      cases h
      simp only [Bool.and_eq_true, Nat.beq_eq, Nat.ble_eq] at hq
      obtain ⟨rfl, hn⟩ := hq
      refine ⟨by simp [u8s]; simp at hn; omega, fun w2 _ => ⟨(s.extract 0 n).data.map fun b => .int .u8 b.toNat, by simp [Builtin.firstCells], ?_⟩⟩
      have e : ((s.extract 0 n).data.map fun b => Value.int .u8 b.toNat).toList = u8s (s.data.toList.take n) := by
        simp [u8s, ByteArray.data_extract]
      rw [e]
      exact .flat fun v hv => by
        simp only [u8s, List.mem_map] at hv
        obtain ⟨b, _, rfl⟩ := hv
        rfl
  | _ => simp [elemsA, asFL, elemsF] at h

structure AppTys (P : Program) (at_ : Array TypeId) (elem : TypeId) (ti : TypeInfo) (z : Value) : Prop where
  ex : ∃ st xt d, at_[0]? = some st ∧ tyU P st = some (.slice elem) ∧ at_[1]? = some xt ∧ tyU P xt = some d ∧ ((∃ e2, d = .slice e2) ∨ d = .string)
  info : tyInfo P elem = some ti
  zero : ti.zero = some z
  size : z.cells.size = ti.size
  pos : 0 < ti.size

/-- There is room. -/
theorem app_room {at_ : Array TypeId} {elem : TypeId} {ti : TypeInfo} {z : Value} (hT : AppTys P at_ elem ti z) {w w' : World} {ty : TypeId} {a : Addr} {len n cap : Nat} {x' : Value} {new : Array Value} (hn : (Builtin.lenOf x').run P w = .ok n w)
    (hnew : (Builtin.firstCells ti.size n x').run P w = .ok new w) (hcap : len + n ≤ cap) (hst : (storeCells (a.add (len * ti.size)) new.toList).run P w = .ok () w') :
    (Builtin.append_ at_ ty #[.slice (some a) len cap, x']).run P w = .ok (.slice (some a) (len + n) cap) w' := by
  obtain ⟨st, xt, d, h1, h2, h3, h4, h5⟩ := hT.ex
  rcases h5 with ⟨e2, rfl⟩ | rfl <;> simp [Builtin.append_, h1, h3, run_under h2, run_size hT.info, hn, hnew, hcap, hst, run_under h4]

/-- There is none. -/
theorem app_grow {at_ : Array TypeId} {elem : TypeId} {ti : TypeInfo} {z : Value} (hT : AppTys P at_ elem ti z) {w : World} {ty : TypeId} {base : Option Addr} {len n cap : Nat} {x' : Value} {old new : Array Value} (hn : (Builtin.lenOf x').run P w = .ok n w)
    (hold : (Builtin.firstCells ti.size len (.slice base len cap)).run P w.drew = .ok old w.drew) (hnew : (Builtin.firstCells ti.size n x').run P w.drew = .ok new w.drew) (hcap : cap < len + n) (hb : roomy (len + n) ti.bytes = true) :
    (Builtin.append_ at_ ty #[.slice base len cap, x']).run P w =
      .ok (.slice (some ⟨w.heap.size, 0, none⟩) (len + n) (grownCap w (len + n) cap elem)) (w.drew.alloc (.cells (old ++ new ++ Builtin.zeroCells z.cells (grownCap w (len + n) cap elem - (len + n))) elem)) := by
  obtain ⟨st, xt, d, h1, h2, h3, h4, h5⟩ := hT.ex
  simp only [roomy, Bool.and_eq_true, Nat.ble_eq] at hb
  have hfit := growslice_fits (bytes := ti.bytes) hcap (by have : (len + n) * ti.bytes ≤ 16777216 * 1048576 := Nat.mul_le_mul hb.1 hb.2; omega)
  have h48 : ¬ (281474976710656 < Builtin.nextslicecap (len + n) cap * ti.bytes) := by omega
  have h63 : ¬ (9223372036854775807 < ((len : Int) + (n : Int))) := by omega
  have hc : ¬ (len + n ≤ cap) := by omega
  rcases h5 with ⟨e2, rfl⟩ | rfl <;> simp [Builtin.append_, h1, h3, run_under h2, run_size hT.info, run_info hT.info, hn, hnew, hold, hc, h48, h63, run_under h4, run_zero hT.info hT.zero, newRow, Question.forced, grownCap]

theorem Ext.push {ρ : Ren} {B : Nat} {H : AH} {w w' : World} {o : Obj} {b : ABlk} {l : Loc} (hR : Rel ρ B H w) (hk : okKey H.n = true) (hp : w'.heap = w.heap.push o) (hl : l.block = w.heap.size) (hfree : ∀ ver, ρ H.n ver = none)
    (hb : ∀ ρ', Sub ρ ρ' → ρ' H.n 0 = some l → BRel ρ' w' b 0 l) (hwf : ∀ c, b = .cells c → c.WF) (hsame : w'.os = w.os ∧ w'.output = w.output := by exact ⟨rfl, rfl⟩) : Rel (ρ.add H.n 0 l) B (H.push b) w' ∧ Ext ρ H w (ρ.add H.n 0 l) (H.push b) w' := by
  have hn : (H.push b).n = H.n + 1 := by rw [AH.push_eq]
  have hg := fun i => AH.get_push (H := H) hk b i
  refine ⟨Rel.born hR hp hl hfree hg hb hwf ?_, ⟨Ren.sub_add (hfree 0), by rw [hp]; simp, ?_, ?_, ?_, by omega, ?_, ?_, hsame, fun _ _ _ h => .inl h⟩⟩
  · intro i c hc
    rw [hg] at hc
    split at hc
    · omega
    · have := hR.low i c hc; omega
  · intro c hc _
    rw [hp, Array.getElem?_push, if_neg (by omega)]
  · intro i v x h1 h0
    rcases Ren.add_cases h1 with ⟨_, _, h3⟩ | h3
    · rw [h3]; exact .inl (by omega)
    · rw [h0] at h3; cases h3
  · intro i v x h1 h0
    rcases Ren.add_cases h1 with ⟨h3, _, _⟩ | h3
    · exact .inl (by omega)
    · rw [h0] at h3; cases h3
  · intro i hi; rw [hg]; split <;> simp_all
  · intro i hi
    rw [hg] at hi
    split at hi
    · exact .inr (by omega)
    · exact .inl hi

theorem zeroCells_size (z : Array Value) (n : Nat) : (Builtin.zeroCells z n).size = n * z.size := by simp [Builtin.zeroCells]

/-- A row that an append makes. -/
theorem fresh_ok {ρ : Ren} {B : Nat} {H : AH} {w : World} (hR : Rel ρ B H w) {elem : TypeId} {ti : TypeInfo} {z : Value} {s : Sem Next} {fresh n cap : Nat} {cs : List Value} {arr : Array Value} (hz : z.cells.size = ti.size) (hs : 0 < ti.size)
    (hlen : cs.length = n * ti.size) (hn : n ≤ cap) (hrel : VRL ρ cs arr.toList) (hrun : s.run P w = .ok (.value (.slice (some ⟨w.heap.size, 0, none⟩) n cap)) (w.drew.alloc (.cells (arr ++ Builtin.zeroCells z.cells (cap - n)) elem))) :
    ResOK P ρ B H w s fresh (freshRow H elem ti.size cs n) := by
  unfold freshRow
  cases hq : okKey H.n with
  | false => rw [cond_false]; trivial
  | true =>
    rw [cond_true]
    intro hfree
    have hf : ∀ ver, ρ H.n ver = none := fun ver => hfree H.n ver (Nat.le_refl _) (by rw [AH.push_eq]; exact Nat.lt_succ_self _)
    have hsz : (arr ++ Builtin.zeroCells z.cells (cap - n)).size = cap * ti.size := by
      have h1 : arr.size = n * ti.size := by have := hrel.1; simp at this; omega
      rw [Array.size_append, zeroCells_size, hz, h1, ← Nat.add_mul]
      congr 1
      omega
    have hb : ∀ ρ', Sub ρ ρ' → ρ' H.n 0 = some ⟨w.heap.size, cap, ti.size⟩ → BRel ρ' (w.drew.alloc (.cells (arr ++ Builtin.zeroCells z.cells (cap - n)) elem)) (.cells { cells := cs, elem := elem, esz := ti.size, lens := [cs.length], wver := 0, frz := 0, pf := noRefsL cs }) 0 ⟨w.heap.size, cap, ti.size⟩ := by
      intro ρ' h1 h2
      refine row_rel (w := w) (arr := arr ++ Builtin.zeroCells z.cells (cap - n)) (fz := (0, 0)) rfl rfl ?_ ?_ ?_ ?_ rfl
      · intro i v hv
        obtain ⟨v', h3, h4⟩ := hrel.get hv
        refine ⟨v', ?_, h4.mono h1⟩
        have hi : i < arr.size := by
          rcases Nat.lt_or_ge i arr.toList.length with h | h
          · simpa using h
          · rw [List.getElem?_eq_none h] at h3; cases h3
        rw [Array.getElem?_append_left hi]
        simpa using h3
      · intro h; cases h
      · intro _
        refine ⟨hsz, ?_⟩
        rw [hsz]
        show cs.length ≤ _
        rw [hlen]
        exact Nat.mul_le_mul_right _ hn
      · intro i _; simp
    have hwf : ∀ c, ABlk.cells { cells := cs, elem := elem, esz := ti.size, lens := [cs.length], wver := 0, frz := 0, pf := noRefsL cs } = .cells c → c.WF := by
      intro c hc
      cases hc
      exact ⟨by simp, Nat.zero_le _, fun h => h⟩
    obtain ⟨r1, r2⟩ := Ext.push (w' := w.drew.alloc (.cells (arr ++ Builtin.zeroCells z.cells (cap - n)) elem)) hR hq rfl rfl hf hb hwf
    refine ⟨_, _, _, _, hrun, rfl, ?_, r1, r2⟩
    have := VR.slice_mk (ρ := ρ.add H.n 0 ⟨w.heap.size, cap, ti.size⟩) (a := ⟨H.n, 0, some 0⟩) (len := n) (c := 0) (Ren.add_self _ _ _ _)
    simpa [capOf] using this

theorem shape_cell {w : World} {b N : Nat} {e : TypeId} (h : w.shape? b = some (e, N)) (i : Nat) (hi : i < N) : (w.cell? ⟨b, i, none⟩).isSome = true := by
  unfold World.shape? at h
  split at h
  · rename_i c el fz hb
    cases h
    simp [World.cell?, hb, hi]
  · cases h

theorem appOpen_sound {ρ : Ren} {B : Nat} {H : AH} {w : World} (hR : Rel ρ B H w) {at_ : Array TypeId} {ty elem : TypeId} {ti : TypeInfo} {z : Value} (hT : AppTys P at_ elem ti z) {fresh n len : Nat} {a : Addr} {s' x' : Value} {new : List Value}
    (hs : VR ρ (.slice (some a) len 0) s') (hn : (Builtin.lenOf x').run P w = .ok n w) (hnl : new.length = n * ti.size) (hnew : ∀ w2 : World, w2.heap = w.heap → ∃ cs : Array Value, (Builtin.firstCells ti.size n x').run P w2 = .ok cs w2 ∧ VRL ρ new cs.toList)
    (hb : roomy (len + n) ti.bytes = true) : ResOK P ρ B H w (vNext (Builtin.append_ at_ ty #[s', x'])) fresh (appOpen H elem ti.size a len n new) := by
  unfold appOpen
  cases hq : (openOk ti.size a H (len * ti.size) && Nat.blt 0 len) with
  | false => rw [cond_false]; trivial
  | true =>
    rw [cond_true]
    simp only [Bool.and_eq_true, Nat.blt_eq] at hq
    obtain ⟨hq1, hlen⟩ := hq
    split
    · rename_i b hb1
      cases hq2 : (tailOk b elem ti.size a len && new.all oneCell) with
      | false => rw [cond_false]; trivial
      | true =>
        rw [cond_true]
        simp only [tailOk, Bool.and_eq_true, Nat.beq_eq, Nat.ble_eq] at hq2
        obtain ⟨⟨t1, t2, ⟨t3, t4⟩, t5, t6⟩, hone⟩ := hq2
        intro hfree
        obtain ⟨l, g1, g2⟩ := hs.slice_inv (.inl hlen)
        obtain ⟨r1, r2, r3, r4⟩ := open_room hR hq1 g1
        obtain ⟨b', hb2, o1, o2, o3, o4⟩ := openOk_some hq1
        have hbb : b' = b := by rw [hb1] at hb2; exact (Option.some.inj hb2).symm
        subst hbb
        obtain ⟨k1, k2, k3, k4⟩ := rdBlk_some hb1
        have hC := rd_rel hR hb1 g1
        obtain ⟨N, s1, s2, s3, s4⟩ := hC.shape
        obtain ⟨s5, s6⟩ := s3 o2
        have hwf := hR.wf _ _ k1
        have hcapd : capOf l a 0 = l.cap := by simp [capOf, t3]
        have hslots : VRL ρ b'.cells b'.cells → True := fun _ => trivial
        have hverlt : ∀ ver l', ρ a.block ver = some l' → ver ≤ b'.top := fun ver l' h => (hR.blk _ _ _ _ h k1).1
        have hnone : ρ a.block (b'.top + 1) = none := by
          cases hx : ρ a.block (b'.top + 1) with
          | none => rfl
          | some l' => have := hverlt _ _ hx; omega
        -- the new block
        have hlens : ∃ x r, b'.lens = x :: r := by
          cases hl : b'.lens with
          | nil => exact absurd hl o2
          | cons x r => exact ⟨x, r, rfl⟩
        have htop : ({ b' with cells := b'.cells ++ new, lens := (b'.cells ++ new).length :: b'.lens, pf := b'.pf && noRefsL new } : CBlk).top = b'.top + 1 := by
          obtain ⟨x, r, hx⟩ := hlens
          simp [CBlk.top, hx]
        have hlenAt : ∀ ver, ver ≤ b'.top → ({ b' with cells := b'.cells ++ new, lens := (b'.cells ++ new).length :: b'.lens, pf := b'.pf && noRefsL new } : CBlk).lenAt ver = b'.lenAt ver := by
          intro ver hv
          obtain ⟨x, r, hx⟩ := hlens
          unfold CBlk.lenAt
          rw [htop]
          simp only [hx]
          rw [show b'.top + 1 - ver = (b'.top - ver) + 1 by omega]
          simp
        have hlenTop : ({ b' with cells := b'.cells ++ new, lens := (b'.cells ++ new).length :: b'.lens, pf := b'.pf && noRefsL new } : CBlk).lenAt (b'.top + 1) = (b'.cells ++ new).length := by
          unfold CBlk.lenAt
          rw [htop]
          simp
        have hwf1 : ∀ c, ABlk.cells { b' with cells := b'.cells ++ new, lens := (b'.cells ++ new).length :: b'.lens, pf := b'.pf && noRefsL new } = .cells c → c.WF := by
          intro c hc
          cases hc
          refine ⟨?_, ?_, fun hp => ?_⟩
          rotate_left 2
          · simp only [Bool.and_eq_true] at hp
            have h1 := hwf.pf hp.1
            rw [noRefsL_iff] at h1 ⊢
            intro x hx
            rcases List.mem_append.1 hx with h2 | h2
            · exact h1 x h2
            · exact (noRefsL_iff _).1 hp.2 x h2
          · intro m hm
            simp only [List.mem_cons] at hm
            rcases hm with rfl | hm
            · exact Nat.le_refl _
            · have := hwf.lens m hm; simp; omega
          · rw [htop]; have := hwf.wver; simp only; omega
        have hnl2 : (b'.cells ++ new).length = (len + n) * ti.size := by
          rw [List.length_append, hnl, ← t4, Nat.add_mul]
        by_cases hroom : len + n ≤ l.cap
        · -- in its place
          obtain ⟨cs, c1, c2⟩ := hnew w rfl
          have hcsl : cs.toList.length = n * ti.size := by have := c2.1; omega
          have hN : (len + n) * ti.size ≤ N := by rw [s5, o1]; exact Nat.mul_le_mul_right _ hroom
          have hcells : ∀ j, j < cs.toList.length → (w.cell? ⟨l.block, len * ti.size + j, none⟩).isSome = true := fun j hj => shape_cell s1 _ (by rw [Nat.add_mul] at hN; omega)
          have hfz : ∀ j, j < cs.toList.length → w.frozen? ⟨l.block, len * ti.size + j, none⟩ = false := fun j hj => s4 _ (by omega) (by rw [Nat.add_mul] at hN; omega)
          have hst := run_storeCells_cells (P := P) l.block (len * ti.size) cs.toList 0 w (by simpa using hcells) (by simpa using hfz) (oneCells_rel c2 hone)
          simp only [Nat.add_zero] at hst
          have hrun := app_room (ty := ty) hT (a := ⟨l.block, a.off, none⟩) (len := len) (cap := l.cap) hn c1 hroom (by rw [addr_add, t3, Nat.zero_add]; exact hst)
          obtain ⟨hs1, hs2⟩ := heap_setCells l.block cs.toList (len * ti.size) w
          obtain ⟨q1, q2⟩ := Rel.write (hsame := same_setCells _ _ _ _) (ρ' := ρ.add a.block (b'.top + 1) l) (w' := w.setCells l.block (len * ti.size) cs.toList) (b1 := .cells { b' with cells := b'.cells ++ new, lens := (b'.cells ++ new).length :: b'.lens, pf := b'.pf && noRefsL new }) hR (Ren.sub_add hnone)
            (fun id' ver l' h => by
              rcases Ren.add_cases h with ⟨e1, e2, e3⟩ | h
              · exact .inr ⟨e1, by rw [e3, hs1]; exact (hR.bnd _ _ _ g1).2, .inr ⟨_, l, g1, by rw [e3]⟩, _, l, g1⟩
              · exact .inl h) k1 t6 (by omega) (fun c hc himg => hs2 c fun e => himg _ _ g1 e.symm)
            (by
              intro ver l' hl'
              have hshape : ∀ r, (w.setCells l.block (len * ti.size) cs.toList).shape? r = w.shape? r := fun r => shape?_setCells _ _ _ _ _
              have hout : ∀ (bk i : Nat), i < b'.cells.length → (w.setCells l.block (len * ti.size) cs.toList).cell? ⟨bk, i, none⟩ = w.cell? ⟨bk, i, none⟩ := fun bk i hi => World.cell?_setCells_out _ _ _ _ _ (fun _ _ => .inl (by simp only; omega))
              rcases Ren.add_cases hl' with ⟨e1, e2, e3⟩ | hl'
              · subst e2; subst e3
                refine ⟨by rw [htop]; exact Nat.le_refl _, fun _ => ⟨⟨N, by rw [hshape]; exact s1, fun hz => (by cases hz), fun _ => ⟨s5, by rw [hlenTop, hnl2]; exact hN⟩, fun i hi hi' => by rw [World.frozen?_setCells]; exact s4 i hi hi'⟩, ?_, hC.esz, fun hm => by rw [hiOf_setCells]; exact hC.hi hm⟩⟩
                intro i v hi hv
                simp only at hv
                by_cases hlt : i < b'.cells.length
                · rw [List.getElem?_append_left hlt] at hv
                  obtain ⟨v', p1, p2⟩ := hC.vals i v (by rw [t2] at k4 ⊢; have := k4; omega) hv
                  exact ⟨v', by rw [hout _ _ hlt]; exact p1, p2.mono (Ren.sub_add hnone)⟩
                · rw [List.getElem?_append_right (by omega)] at hv
                  obtain ⟨v', p1, p2⟩ := c2.get hv
                  have hj : i - b'.cells.length < cs.toList.length := by
                    rcases Nat.lt_or_ge (i - b'.cells.length) cs.toList.length with h | h
                    · exact h
                    · rw [List.getElem?_eq_none h] at p1; cases p1
                  have p3 := World.cell?_setCells_in l'.block cs.toList (len * ti.size) w hcells (i - b'.cells.length) hj
                  rw [show len * ti.size + (i - b'.cells.length) = i by omega] at p3
                  rw [List.getElem?_eq_getElem hj] at p1
                  cases p1
                  exact ⟨_, p3, p2.mono (Ren.sub_add hnone)⟩
              · have hver := hverlt _ _ hl'
                refine ⟨by rw [htop]; omega, fun hw => ?_⟩
                obtain ⟨hC'⟩ : Nonempty (CRel ρ w b' ver l') := ⟨(hR.blk _ _ _ _ hl' k1).2 hw⟩
                obtain ⟨N', u1, u2, u3, u4⟩ := hC'.shape
                refine ⟨⟨N', by rw [hshape]; exact u1, fun hz => (by cases hz), fun _ => ⟨(u3 o2).1, by rw [hlenAt _ hver]; exact (u3 o2).2⟩, fun i hi hi' => by rw [World.frozen?_setCells]; exact u4 i hi hi'⟩, ?_, hC'.esz, fun hm => by rw [hiOf_setCells]; exact hC'.hi hm⟩
                intro i v hi hv
                rw [hlenAt _ hver] at hi
                have hlt : i < b'.cells.length := Nat.lt_of_lt_of_le hi (hwf.lenAt_le _)
                simp only at hv
                rw [List.getElem?_append_left hlt] at hv
                obtain ⟨v', p1, p2⟩ := hC'.vals i v hi hv
                exact ⟨v', by rw [hout _ _ hlt]; exact p1, p2.mono (Ren.sub_add hnone)⟩) hwf1 (fun _ _ _ h => .inl h)
            (fun ver l' i v h1 h2 h3 => by
              have h3 : i < b'.frz := h3
              have hfr : i < b'.cells.length := by omega
              rw [World.cell?_setCells_out l.block cs.toList (len * ti.size) w _ (fun _ _ => .inl (by simp only; omega))]
              exact hR.fz.cell _ _ _ h2) (fun _ _ h => h) (fun _ _ _ _ _ _ _ _ _ h => h)
          refine ⟨_, _, _, _, by rw [run_vNext, g2, hcapd, hrun]; rfl, rfl, ?_, q1, q2⟩
          have := VR.slice_mk (ρ := ρ.add a.block (b'.top + 1) l) (a := ⟨a.block, a.off, some (b'.top + 1)⟩) (len := len + n) (c := 0) (Ren.add_self _ _ _ _)
          simpa [capOf, t3] using this
        · -- elsewhere
          obtain ⟨cs, c1, c2⟩ := hnew w.drew rfl
          have hR2 : Rel ρ B H w.drew := ⟨fun id ver l b h1 h3 => (hR.blk id ver l b h1 h3).keep (.refl ρ) rfl, hR.wf, hR.low, hR.sep, hR.bnd, hR.base, ⟨hR.fz.cell, hR.fz.sep⟩⟩
          obtain ⟨olds, d1, d2⟩ := run_load_row (P := P) hR2 hb1 g1
          have hslot : slotsOf b'.cells a.off (len * ti.size) = b'.cells := by simp [slotsOf, t3, t4]
          rw [hslot] at d2
          have hrun := app_grow (ty := ty) hT (base := some ⟨l.block, a.off, none⟩) (len := len) (cap := l.cap) (w := w) hn (by simpa [Builtin.firstCells] using d1) c1 (by omega) hb
          have hge := grownCap_ge w (len + n) l.cap elem
          have hrel : VRL ρ (b'.cells ++ new) (olds ++ cs).toList := by rw [Array.toList_append]; exact d2.append c2
          have hsz : (olds ++ cs ++ Builtin.zeroCells z.cells (grownCap w (len + n) l.cap elem - (len + n))).size = grownCap w (len + n) l.cap elem * ti.size := by
            have h1 : (olds ++ cs).size = (len + n) * ti.size := by
              have := hrel.1
              rw [hnl2] at this
              rw [← Array.length_toList]
              omega
            rw [Array.size_append, zeroCells_size, hT.size, h1, ← Nat.add_mul]
            congr 1
            omega
          have hheap : (w.drew.alloc (.cells (olds ++ cs ++ Builtin.zeroCells z.cells (grownCap w (len + n) l.cap elem - (len + n))) elem)).heap = w.heap.push (.cells (olds ++ cs ++ Builtin.zeroCells z.cells (grownCap w (len + n) l.cap elem - (len + n))) elem) := rfl
          obtain ⟨q1, q2⟩ := Rel.write (ρ' := ρ.add a.block (b'.top + 1) ⟨w.heap.size, grownCap w (len + n) l.cap elem, ti.size⟩) (w' := w.drew.alloc (.cells (olds ++ cs ++ Builtin.zeroCells z.cells (grownCap w (len + n) l.cap elem - (len + n))) elem))
            (b1 := .cells { b' with cells := b'.cells ++ new, lens := (b'.cells ++ new).length :: b'.lens, pf := b'.pf && noRefsL new }) hR (Ren.sub_add hnone)
            (fun id' ver l' h => by
              rcases Ren.add_cases h with ⟨e1, e2, e3⟩ | h
              · exact .inr ⟨e1, by rw [e3, hheap]; simp, .inl (by rw [e3]; exact Nat.le_refl _), _, l, g1⟩
              · exact .inl h) k1 t6 (by rw [hheap]; simp) (fun c hc _ => by rw [hheap, Array.getElem?_push, if_neg (by omega)])
            (by
              intro ver l' hl'
              rcases Ren.add_cases hl' with ⟨e1, e2, e3⟩ | hl'
              · subst e2; subst e3
                have hget : (w.drew.alloc (.cells (olds ++ cs ++ Builtin.zeroCells z.cells (grownCap w (len + n) l.cap elem - (len + n))) elem)).heap[w.heap.size]? = some (.cells (olds ++ cs ++ Builtin.zeroCells z.cells (grownCap w (len + n) l.cap elem - (len + n))) elem (0, 0)) := by rw [hheap]; simp
                refine ⟨by rw [htop]; exact Nat.le_refl _, fun _ => ⟨⟨grownCap w (len + n) l.cap elem * ti.size, by simp only [World.shape?, hget, t1, hsz], fun hz => (by cases hz), fun _ => ⟨by rw [o1], ?_⟩, fun i _ hi' => (by simp only [World.frozen?, hget]; simp)⟩, ?_, o1.symm, fun _ => by simp only [hiOf, hget]; exact Nat.zero_le _⟩⟩
                · rw [hlenTop, hnl2]; exact Nat.mul_le_mul_right _ hge
                · intro i v hi hv
                  simp only at hv
                  obtain ⟨v', p1, p2⟩ := hrel.get hv
                  refine ⟨v', ?_, p2.mono (Ren.sub_add hnone)⟩
                  have hj : i < (olds ++ cs).size := by
                    rcases Nat.lt_or_ge i (olds ++ cs).toList.length with h | h
                    · rwa [Array.length_toList] at h
                    · rw [List.getElem?_eq_none h] at p1; cases p1
                  simp only [World.cell?, hget, Option.isSome_none, Bool.false_eq_true, if_false]
                  rw [Array.getElem?_append_left hj]
                  rw [Array.getElem?_toList] at p1
                  exact p1
              · have hver := hverlt _ _ hl'
                refine ⟨by rw [htop]; omega, fun hw => ?_⟩
                have hlt' := (hR.bnd _ _ _ hl').2
                obtain ⟨hC'⟩ : Nonempty (CRel ρ w b' ver l') := ⟨(hR.blk _ _ _ _ hl' k1).2 hw⟩
                obtain ⟨N', u1, u2, u3, u4⟩ := hC'.shape
                refine ⟨⟨N', by rw [shape?_push hheap _ hlt']; exact u1, fun hz => (by cases hz), fun _ => ⟨(u3 o2).1, by rw [hlenAt _ hver]; exact (u3 o2).2⟩, fun i hi hi' => by rw [frozen?_push hheap _ hlt']; exact u4 i hi hi'⟩, ?_, hC'.esz, fun hm => by have := hC'.hi hm; unfold hiOf at this ⊢; rw [hheap, Array.getElem?_push, if_neg (Nat.ne_of_lt hlt')]; exact this⟩
                intro i v hi hv
                rw [hlenAt _ hver] at hi
                have hlt : i < b'.cells.length := Nat.lt_of_lt_of_le hi (hwf.lenAt_le _)
                simp only at hv
                rw [List.getElem?_append_left hlt] at hv
                obtain ⟨v', p1, p2⟩ := hC'.vals i v hi hv
                exact ⟨v', by rw [cell?_push hheap _ hlt']; exact p1, p2.mono (Ren.sub_add hnone)⟩) hwf1 (fun _ _ _ h => .inl h)
            (fun ver l' i v h1 h2 _ => by
              rw [cell?_push hheap ⟨l'.block, i, none⟩ (hR.fz.lt h2)]
              exact hR.fz.cell _ _ _ h2) (fun _ _ h => h) (fun _ _ _ _ _ _ _ _ _ h => h)
          refine ⟨_, _, _, _, by rw [run_vNext, g2, hcapd, hrun]; rfl, rfl, ?_, q1, q2⟩
          have := VR.slice_mk (ρ := ρ.add a.block (b'.top + 1) ⟨w.heap.size, grownCap w (len + n) l.cap elem, ti.size⟩) (a := ⟨a.block, a.off, some (b'.top + 1)⟩) (len := len + n) (c := 0) (Ren.add_self _ _ _ _)
          simpa [capOf, t3] using this
    · trivial

end
end Go.Den
