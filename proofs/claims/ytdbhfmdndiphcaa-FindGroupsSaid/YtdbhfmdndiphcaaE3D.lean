/-
  THE ENGINE FOR UNKNOWN VALUES, part D: whole texts made ready once more: what they come to, the engine comes to.
-/
import Derived.Test.YtdbhfmdndiphcaaE3C
namespace Go.Den
noncomputable section

variable {P : Program}

theorem trConv_ok {e : Env} {H : AH} {dst : Option Tmp} {s d : TypeId} {x : Operand} {type : TypeId} {pos : String} {after : Array Edge} {guard : Option (Nat × Bool)} (h : riA P e H (trConv P s d x) ≠ .none) :
    genA P e ⟨dst, .convert s d x, type, pos, after, guard⟩ = riA P e H (trConv P s d x) := by
  unfold trConv at h ⊢
  split
  · rename_i j k hs hd
    rw [hs, hd] at h
    exact conv_ok hs hd h
  · rename_i hn
    split at h
    · rename_i j k hs hd; exact absurd hd (hn _ _ hs)
    · exact absurd rfl h

theorem trAgg_ok {e : Env} {H : AH} {dst : Option Tmp} {op : BinOp} {t : TypeId} {x y : Operand} {b type : TypeId} {pos : String} {after : Array Edge} {guard : Option (Nat × Bool)} {d : TypeDesc} (ht : tyU P t = some d) (hd : isAggD d = true)
    (h : riA P e H (bif P.eqGuardType P.depth t then .bad else trEq op (atomsT P 12 t) x y) ≠ .none) :
    genA P e ⟨dst, .binOp op t x y b, type, pos, after, guard⟩ = riA P e H (bif P.eqGuardType P.depth t then .bad else trEq op (atomsT P 12 t) x y) := by
  cases hg : P.eqGuardType P.depth t with
  | true => rw [hg, cond_true] at h; exact absurd rfl h
  | false =>
    rw [hg, cond_false] at h
    rw [cond_false]
    unfold trEq at h ⊢
    cases hks : atomsT P 12 t with
    | none => rw [hks] at h; cases op <;> exact absurd rfl h
    | some ks =>
      rw [hks] at h
      cases op with
      | eql => exact eqc_ok (neg := false) ht hd hg hks h
      | neq => exact eqc_ok (neg := true) ht hd hg hks h
      | _ => exact absurd rfl h

theorem trBin_ok {e : Env} {H : AH} {dst : Option Tmp} {op : BinOp} {t : TypeId} {x y : Operand} {b type : TypeId} {pos : String} {after : Array Edge} {guard : Option (Nat × Bool)} (h : riA P e H (trBin P op t x y) ≠ .none) :
    genA P e ⟨dst, .binOp op t x y b, type, pos, after, guard⟩ = riA P e H (trBin P op t x y) := by
  unfold trBin at h ⊢
  cases ht : tyU P t with
  | none => rw [ht] at h; exact absurd rfl h
  | some d =>
    rw [ht] at h
    cases d with
    | string => exact str2_ok h
    | bool =>
      simp only at h ⊢
      cases op with
      | eql => exact eqb_ok (neg := false) ht h
      | neq => exact eqb_ok (neg := true) ht h
      | _ => exact absurd rfl h
    | struct fs => exact trAgg_ok ht rfl h
    | array n el => exact trAgg_ok ht rfl h
    | _ => exact absurd rfl h

theorem trGen_ok {e : Env} {H : AH} {o : Oper} (h : riA P e H (trGen P o) ≠ .none) : genA P e o = riA P e H (trGen P o) := by
  obtain ⟨dst, op, type, pos, after, guard⟩ := o
  unfold trGen at h ⊢
  cases op with
  | binOp op t x y b => exact trBin_ok h
  | unOp op t x => exact un_ok h
  | convert s d x => exact trConv_ok h
  | index t x j =>
    simp only at h ⊢
    cases ht : tyU P t with
    | none => rw [ht] at h; exact absurd rfl h
    | some d =>
      rw [ht] at h
      cases d <;> first | exact sidx_ok ht h | exact absurd rfl h
  | slice t x lo hi mx =>
    cases mx with
    | none =>
      simp only at h ⊢
      cases ht : tyU P t with
      | none => rw [ht] at h; exact absurd rfl h
      | some d =>
        rw [ht] at h
        cases d <;> first | exact ssl_ok ht h | exact absurd rfl h
    | some m => exact absurd rfl h
  | call c =>
    obtain ⟨callee, args, tys⟩ := c
    simp only at h ⊢
    split
    · rename_i x t h2 h3
      simp only [h2, h3] at h
      cases ht : tyU P t with
      | none => rw [ht] at h; exact absurd rfl h
      | some d =>
        rw [ht] at h
        cases d <;> first | exact slen_ok h2 h3 ht h | exact absurd rfl h
    · rename_i x r h2
      simp only [h2] at h
      exact mm_ok (.inl ⟨rfl, rfl⟩) h2 h
    · rename_i x r h2
      simp only [h2] at h
      exact mm_ok (.inr ⟨rfl, rfl⟩) h2 h
    · rename_i hn2 hn3 hn
      split at h
      · rename_i x t h2 h3; exact (hn _ _ rfl h2 h3).elim
      · rename_i x r h2; exact (hn2 _ _ rfl h2).elim
      · rename_i x r h2; exact (hn3 _ _ rfl h2).elim
      · exact absurd rfl h
  | _ => exact absurd rfl h

theorem sameOpd_eq {a b : Operand} (h : sameOpd a b = true) : a = b := by
  unfold sameOpd at h
  split at h
  · rw [Nat.eq_of_beq_eq_true h]
  · simp only [Bool.and_eq_true, eqF_eq, beq_iff_eq] at h
    rw [sameKind_eq h.1, h.2]
  · cases h

theorem lenS_ok {e : Env} {o : Oper} {x : Operand} (ho : isLenS P o x = true) (h : lenSV (evl e x) ≠ .none) : lenIA P e (evl e x) o = lenSV (evl e x) := by
  unfold isLenS at ho
  split at ho
  · rename_i c hc
    split at ho
    · rename_i y t h1 h2 h3
      split at ho
      · rename_i el ht
        have hxy := sameOpd_eq ho
        subst hxy
        unfold lenSV at h ⊢
        unfold lenIA
        cases hv : evl e x with
        | slice a n c' =>
          cases a with
          | some a => rfl
          | none =>
            show genA P e o = val (.int .i64 n)
            obtain ⟨dst, op, type, pos, after, guard⟩ := o
            simp only at hc
            subst hc
            obtain ⟨callee, args, tys⟩ := c
            simp only at h1 h2 h3
            subst h1
            have ha' : args = #[x] := by cases args; simp_all
            subst ha'
            have hl : pureRun P (Builtin.len_ tys type #[.slice none n c']) = some (.int .i64 n) := by
              unfold Builtin.len_
              simp only [h3]
              show pureRun P ((underlying t).bind fun d => _) = _
              rw [under_run ht]
              rfl
            refine genA_of (by simp [Op.operands, Call.operands, hv, flat]) ?_ rfl
            have h2 : pureRun P (execOp (evl e) ⟨dst, .call ⟨.builtin .len, #[x], tys⟩, type, pos, after, guard⟩) = (pureRun P (Builtin.len_ tys type #[evl e x])).map Next.value := by
              simp only [execOp, resolve, pureRun_bind, pureRun_pure, Option.bind_some, invoke, builtin]
              have hm : (#[x].map (evl e)) = #[evl e x] := by simp
              rw [hm]
              cases pureRun P (Builtin.len_ tys type #[evl e x]) <;> rfl
            rw [h2, hv, hl]
            rfl
        | func fn a b =>
          rw [hv] at h
          simp only at h ⊢
          cases hq : asFL (.func fn a b) with
          | none => rw [hq] at h; exact absurd rfl h
          | some p => rfl
        | _ => rw [hv] at h; exact absurd rfl h
      · cases ho
    · cases ho
  · cases ho

theorem slS_ok {e : Env} {H : AH} {size : Nat} {x : Operand} {lo hi mx : Option Operand} {o : Oper} (h : slSR e H size (evl e x) lo hi mx ≠ .none) : slSA P e H size (evl e x) lo hi mx o = slSR e H size (evl e x) lo hi mx := by
  unfold slSR at h ⊢
  unfold slSA
  cases hv : evl e x with
  | slice a n c =>
    cases a with
    | some a => rfl
    | none => rw [hv] at h; exact absurd rfl h
  | func fn a b =>
    rw [hv] at h
    simp only at h ⊢
    cases hq : asFL (.func fn a b) with
    | none => rw [hq] at h; exact absurd rfl h
    | some p => rfl
  | _ => rw [hv] at h; exact absurd rfl h

theorem look_ok {e : Env} {H : AH} {kt : Nat} {zero : Value} {ok : Bool} {m k : Operand} {o : Oper} (h : lookR P H kt zero ok (evl e m) (evl e k) ≠ .none) : lookA P e H kt zero ok (evl e m) (evl e k) o = lookR P H kt zero ok (evl e m) (evl e k) := by
  unfold lookR at h ⊢
  unfold lookA
  cases hv : evl e m with
  | map r =>
    cases r with
    | some r => rfl
    | none => rw [hv] at h; exact absurd rfl h
  | _ => rw [hv] at h; exact absurd rfl h

theorem lenM_ok {e : Env} {H : AH} {x : Operand} {o : Oper} (h : lenMR H (evl e x) ≠ .none) : lenMA P e H (evl e x) o = lenMR H (evl e x) := by
  unfold lenMR at h ⊢
  unfold lenMA
  cases hv : evl e x with
  | map r =>
    cases r with
    | some r => rfl
    | none => rw [hv] at h; exact absurd rfl h
  | _ => rw [hv] at h; exact absurd rfl h

theorem b2s_ok {e : Env} {H : AH} {x : Operand} {o : Oper} (ho : isB2S P o x = true) (h : b2sR H (evl e x) ≠ .none) : b2sA P e H (evl e x) o = b2sR H (evl e x) := by
  unfold isB2S at ho
  split at ho
  · rename_i src dst y hc
    split at ho
    · rename_i el hs hd
      split at ho
      · rename_i he
        have hxy := sameOpd_eq ho
        subst hxy
        unfold b2sR at h ⊢
        unfold b2sA
        cases hv : evl e x with
        | slice a n c' =>
          cases a with
          | some a =>
            cases n with
            | zero => rfl
            | succ n => rfl
          | none =>
            rw [hv] at h
            cases n with
            | succ n => exact absurd rfl h
            | zero =>
              cases c' with
              | succ c' => exact absurd rfl h
              | zero =>
                show genA P e o = val (.string ⟨#[]⟩)
                obtain ⟨ds, op, type, pos, after, guard⟩ := o
                simp only at hc
                subst hc
                exact genA_of (by simp [Op.operands, hv, flat]) (by
                  show pureRun P ((convert src dst (evl e x)).bind fun v => Sem.pure (Next.value v)) = _
                  rw [hv, pureRun_bind']
                  show (pureRun P ((underlying src).bind fun a => (underlying dst).bind fun b => _)).bind _ = _
                  rw [under_run hs, under_run hd]
                  show (pureRun P ((underlying el).bind fun a => _)).bind _ = _
                  rw [under_run he]
                  rfl) rfl
        | func fn a b =>
          rw [hv] at h
          simp only at h ⊢
          cases hq : asFL (.func fn a b) with
          | none => rw [hq] at h; exact absurd rfl h
          | some p => rfl
        | _ => rw [hv] at h; exact absurd rfl h
      · cases ho
    · cases ho
  · cases ho

theorem trIns_ok {e : Env} {H : AH} {i : Ins} (h : riA P e H (trIns P i) ≠ .none) : insA P e H H.n i = riA P e H (trIns P i) := by
  unfold trIns at h ⊢
  split
  · rename_i op x y o
    simp only at h
    split
    · rename_i op' t x' y' b ho
      simp only [ho] at h
      split
      · rename_i hs
        simp only [hs, if_true] at h
        obtain ⟨dst, op0, type, pos, after, guard⟩ := o
        simp only at ho
        subst ho
        simp only [Bool.and_eq_true] at hs
        have h1 : op = op' := by simpa [sameOp] using hs.1
        have h2 := sameOpd_eq hs.2.1
        have h3 := sameOpd_eq hs.2.2
        subst h1; subst h2; subst h3
        unfold trInt at h ⊢
        cases hs : isSh op with
        | true =>
          simp only [hs, if_true] at h ⊢
          exact shift_ok hs h
        | false =>
          simp only [hs, Bool.false_eq_true, if_false] at h ⊢
          split
          · rename_i k hk
            rw [hk] at h
            exact int2_ok hs h
          · rename_i hn
            split at h
            · rename_i k hk; exact absurd hk (hn k)
            · exact absurd rfl h
      · rename_i hs
        rw [if_neg hs] at h
        exact absurd rfl h
    · rename_i hn
      split at h
      · rename_i op' t x' y' b ho; exact absurd ho (hn _ _ _ _ _)
      · exact absurd rfl h
  · exact trGen_ok h
  · rename_i x o
    simp only at h
    split
    · rename_i hs; rw [if_pos hs] at h; exact lenS_ok hs h
    · rename_i hs; rw [if_neg hs] at h; exact absurd rfl h
  · exact slS_ok h
  · exact look_ok h
  · exact lenM_ok h
  · rename_i x o
    simp only at h
    split
    · rename_i hs; rw [if_pos hs] at h; exact b2s_ok hs h
    · rename_i hs; rw [if_neg hs] at h; exact absurd rfl h
  · exact absurd rfl h
  · exact absurd rfl h
  · rfl

theorem didRes_none {cs : Calls0} {wr : List Nat} {H : AH} {r : ARes} (h : didRes cs wr H r ≠ .none) : r ≠ .none := by
  intro e; subst e; exact h rfl

theorem step_look {i : Ins} (e : Env) (h : trIns P i ≠ .bad) : (bif looks (some i) then optRd e (some i) else []) = looksR e (trIns P i) ∧ ((∃ j, trIns P i = .ins j ∧ j = i) ∨ ((∀ j, trIns P i ≠ .ins j) ∧ effWr e i = [])) := by
  cases i with
  | int2 op x y o =>
    have h1 : ∀ j, trIns P (.int2 op x y o) ≠ .ins j := by
      intro j
      simp only [trIns]
      split
      · split
        · unfold trInt; split
          · intro h; cases h
          · split <;> (intro h; cases h)
        · intro h; cases h
      · intro h; cases h
    have h2 : looksR e (trIns P (.int2 op x y o)) = [] := by
      simp only [trIns]
      split
      · split
        · unfold trInt; split
          · rfl
          · split <;> rfl
        · rfl
      · rfl
    exact ⟨h2.symm, .inr ⟨h1, rfl⟩⟩
  | gen o =>
    have h0 : (∀ j, trGen P o ≠ .ins j) ∧ looksR e (trGen P o) = [] := by
      unfold trGen
      split
      · unfold trBin; split
        · exact ⟨fun j h => (by cases h), rfl⟩
        · split <;> exact ⟨fun j h => (by cases h), rfl⟩
        · cases P.eqGuardType P.depth _
          · unfold trEq; rw [cond_false]; split <;> exact ⟨fun j h => (by cases h), rfl⟩
          · exact ⟨fun j h => (by cases h), rfl⟩
        · cases P.eqGuardType P.depth _
          · unfold trEq; rw [cond_false]; split <;> exact ⟨fun j h => (by cases h), rfl⟩
          · exact ⟨fun j h => (by cases h), rfl⟩
        · exact ⟨fun j h => (by cases h), rfl⟩
      · exact ⟨fun j h => (by cases h), rfl⟩
      · unfold trConv; split <;> exact ⟨fun j h => (by cases h), rfl⟩
      · split <;> exact ⟨fun j h => (by cases h), rfl⟩
      · split <;> exact ⟨fun j h => (by cases h), rfl⟩
      · split
        · split <;> exact ⟨fun j h => (by cases h), rfl⟩
        · exact ⟨fun j h => (by cases h), rfl⟩
        · exact ⟨fun j h => (by cases h), rfl⟩
        · exact ⟨fun j h => (by cases h), rfl⟩
      · exact ⟨fun j h => (by cases h), rfl⟩
    exact ⟨h0.2.symm, .inr ⟨h0.1, rfl⟩⟩
  | len x o =>
    simp only [trIns]
    split
    · exact ⟨rfl, .inr ⟨fun j h => (by cases h), rfl⟩⟩
    · exact ⟨rfl, .inr ⟨fun j h => (by cases h), rfl⟩⟩
  | b2s x o =>
    simp only [trIns] at h ⊢
    split
    · exact ⟨rfl, .inr ⟨fun j h => (by cases h), rfl⟩⟩
    · rename_i hs; rw [if_neg hs] at h; exact absurd rfl h
  | slS size x lo hi mx o => exact ⟨rfl, .inr ⟨fun j h => (by cases h), rfl⟩⟩
  | look kt zero ok m k o => exact ⟨rfl, .inr ⟨fun j h => (by cases h), rfl⟩⟩
  | lenM x o => exact ⟨rfl, .inr ⟨fun j h => (by cases h), rfl⟩⟩
  | topu x o => exact absurd rfl h
  | frpu u x o => exact absurd rfl h
  | _ => exact ⟨rfl, .inl ⟨_, rfl, rfl⟩⟩

theorem stepR_ok {cs : Calls0} {e : Env} {H : AH} {i : Option Ins} (h : stepR P cs e H (trI P i) ≠ .none) : stepA P cs e H i = stepR P cs e H (trI P i) ∧ (bif looks i then optRd e i else []) = looksR e (trI P i) := by
  cases i with
  | none => exact absurd rfl h
  | some i =>
    simp only [trI] at h ⊢
    have hb : trIns P i ≠ .bad := by intro hb; rw [hb] at h; exact h rfl
    obtain ⟨h1, h2⟩ := step_look (P := P) e hb
    refine ⟨?_, h1⟩
    rcases h2 with ⟨j, h3, rfl⟩ | ⟨h3, h4⟩
    · rw [h3]; rfl
    · have h5 : stepR P cs e H (trIns P i) = didRes cs [] H (riA P e H (trIns P i)) := by
        cases ht : trIns P i with
        | ins j => exact absurd ht (h3 j)
        | _ => rfl
      rw [h5] at h ⊢
      show didRes cs (effWr e i) H (insA P e H H.n i) = _
      rw [h4, trIns_ok (didRes_none h)]

abbrev Le {R : Type} (K K' : KR R) : Prop := ∀ e H r, K e H = some r → K' e H = some r

theorem didG_ne {R : Type} {g : Option Bool} {d : Did} {H : AH} {dst : Option Tmp} {e : Env} {K : KR R} {r : R} (h : opsK (didG g d H) dst e K = some r) : g = some false ∨ (g = some true ∧ d ≠ .none) := by
  cases g with
  | none => cases h
  | some b =>
    cases b with
    | false => exact .inl rfl
    | true =>
      refine .inr ⟨rfl, ?_⟩
      intro hd
      subst hd
      cases h

theorem opsR_ok {R : Type} {cs : Calls0} {ops : Array Oper} : ∀ (l : List Oper) (K K' : KR R), Le K K' → Le (opsR P cs K (trOps P ops l)) (opsA P cs K' (compOps P ops l)) := by
  intro l
  induction l with
  | nil => intro K K' hK e H r h; exact hK e H r h
  | cons o l ih =>
    intro K K' hK e H r h
    have h' : opsK (didG (gsel (compGuard ops o.guard) e) (stepR P cs e H (trI P (comp P o))) H) o.dst e (opsR P cs K (trOps P ops l)) = some r := h
    show opsK (didG (gsel (compGuard ops o.guard) e) (stepA P cs e H (comp P o)) H) o.dst e (opsA P cs K' (compOps P ops l)) = some r
    have hd : didG (gsel (compGuard ops o.guard) e) (stepA P cs e H (comp P o)) H = didG (gsel (compGuard ops o.guard) e) (stepR P cs e H (trI P (comp P o))) H := by
      rcases didG_ne h' with hg | ⟨hg, hne⟩
      · rw [hg]; rfl
      · rw [hg]; exact (stepR_ok hne).1
    rw [hd]
    revert h'
    cases didG (gsel (compGuard ops o.guard) e) (stepR P cs e H (trI P (comp P o))) H with
    | none => intro h'; cases h'
    | did v nb eff H' wr => intro h'; exact ih K K' hK _ _ _ h'

theorem opsDR_ok {R : Type} {cs : Calls0} {ops : Array Oper} : ∀ (l : List Oper) (K K' : KR R), Le K K' → ∀ i acc, Le (opsDR P cs (Region.before ops) K (trOps P ops l) i acc) (opsD P cs ops K' (compOps P ops l) i acc) := by
  intro l
  induction l with
  | nil =>
    intro K K' hK i acc e H r h
    have h' : drawEndR (Region.before ops) acc K e H = some r := h
    show drawEnd ops acc K' e H = some r
    unfold drawEndR at h'
    unfold drawEnd
    cases hq : (chainTi (Region.before ops) acc.reverse && sepAll (Region.before ops) acc) with
    | false => rw [hq, cond_false] at h'; cases h'
    | true => rw [hq, cond_true] at h'; rw [cond_true]; exact hK _ _ _ h'
  | cons o l ih =>
    intro K K' hK i acc e H r h
    have h' : opsKR (didG (gsel (compGuard ops o.guard) e) (stepR P cs e H (trI P (comp P o))) H) (trO P ops o) i acc e H (opsDR P cs (Region.before ops) K (trOps P ops l)) = some r := h
    show opsKD (didG (gsel (compGuard ops o.guard) e) (stepA P cs e H (comp P o)) H) (compO P ops o) i acc e H (opsD P cs ops K' (compOps P ops l)) = some r
    cases hg : gsel (compGuard ops o.guard) e with
    | none => rw [hg] at h'; cases h'
    | some b =>
      cases b with
      | false =>
        rw [hg] at h'
        have h2 : opsDR P cs (Region.before ops) K (trOps P ops l) (i + 1) (tiR (gsel (compGuard ops o.guard) e) i (trI P (comp P o)) e H none false H [] acc) (e.put o.dst undef) H = some r := h'
        show opsD P cs ops K' (compOps P ops l) (Nat.succ i) (tiOf (gsel (compGuard ops o.guard) e) i (compO P ops o) e H none false H [] acc) (e.put o.dst undef) H = some r
        rw [hg] at h2 ⊢
        exact ih K K' hK _ _ _ _ _ h2
      | true =>
        rw [hg] at h'
        have hd : stepR P cs e H (trI P (comp P o)) ≠ .none := by
          intro hd
          simp only [didG, hd] at h'
          cases h'
        obtain ⟨h1, h2⟩ := stepR_ok hd
        simp only [didG] at h' ⊢
        rw [h1]
        revert h'
        cases hq : stepR P cs e H (trI P (comp P o)) with
        | none => intro h'; cases h'
        | did v nb eff H' wr =>
          intro h'
          have h3 : opsDR P cs (Region.before ops) K (trOps P ops l) (i + 1) (tiR (gsel (compGuard ops o.guard) e) i (trI P (comp P o)) e H nb eff H' wr acc) (e.put o.dst v) H' = some r := h'
          show opsD P cs ops K' (compOps P ops l) (Nat.succ i) (tiOf (gsel (compGuard ops o.guard) e) i (compO P ops o) e H nb eff H' wr acc) (e.put o.dst v) H' = some r
          have h4 : tiOf (gsel (compGuard ops o.guard) e) i (compO P ops o) e H nb eff H' wr acc = tiR (gsel (compGuard ops o.guard) e) i (trI P (comp P o)) e H nb eff H' wr acc := by
            rw [hg]
            simp only [tiOf, tiR, compO]
            rw [h2]
          rw [h4]
          exact ih K K' hK _ _ _ _ _ h3

theorem codeR_ok {R : Type} {cfg : Cfg} {f : FuncId} {p : Nat} {rec : Rec} : ∀ (c : Code) (K K' : KC R), (∀ x, Le (K x) (K' x)) → Le (codeR P cfg f p rec (trC P c) K) (codeA P cfg f p rec c K') := by
  intro c
  induction c with
  | skip => intro K K' hK e H r h; exact hK _ _ _ _ h
  | label l => intro K K' hK e H r h; exact hK _ _ _ _ h
  | ret => intro K K' hK e H r h; exact hK _ _ _ _ h
  | exit id => intro K K' hK e H r h; exact hK _ _ _ _ h
  | region id ops draw =>
    intro K K' hK e H r h
    cases draw with
    | false => exact opsR_ok ops.toList (K .normal) (K' .normal) (hK .normal) e H r h
    | true =>
      simp only [trC, if_true] at h
      show drawA P (callS P cfg rec) ops (K' .normal) e H = some r
      unfold drawA
      cases hs : staticOk ops with
      | false => simp only [hs, Bool.false_eq_true, if_false] at h; cases h
      | true =>
        simp only [hs, if_true] at h
        rw [cond_true]
        exact opsDR_ok ops.toList (K .normal) (K' .normal) (hK .normal) 0 [] e H r h
  | seq a b iha ihb =>
    intro K K' hK e H r h
    refine iha _ _ (fun x => ?_) e H r h
    cases x with
    | normal => exact ihb K K' hK
    | exit id => exact hK _
    | goto l => exact hK _
    | ret => exact hK _
  | cond c a b iha ihb =>
    intro K K' hK e H r h
    simp only [trC] at h
    show (bif okOpd c then condV (evl e c) (codeA P cfg f p rec a K' e H) (codeA P cfg f p rec b K' e H) else none) = some r
    cases hc : okOpd c with
    | false => simp only [hc, Bool.false_eq_true, if_false] at h; cases h
    | true =>
      simp only [hc, if_true] at h
      rw [cond_true]
      have h' : condV (evl e c) (codeR P cfg f p rec (trC P a) K e H) (codeR P cfg f p rec (trC P b) K e H) = some r := h
      unfold condV at h' ⊢
      split at h'
      · rename_i hv; exact iha K K' hK e H r h'
      · rename_i hv; exact ihb K K' hK e H r h'
      · cases h'
  | block id c ih =>
    intro K K' hK e H r h
    refine ih _ _ (fun x => ?_) e H r h
    cases x with
    | normal => exact hK _
    | exit j =>
      intro e H r h
      simp only [blockK] at h ⊢
      cases hq : Nat.beq j id with
      | true => rw [hq, cond_true] at h; rw [cond_true]; exact hK _ _ _ _ h
      | false => rw [hq, cond_false] at h; rw [cond_false]; exact hK _ _ _ _ h
    | goto l => exact hK _
    | ret => exact hK _
  | loop c ih =>
    intro K K' hK e H r h
    have h' : loopA rec f p c e H K (cfg.live f (firstId c)) = some r := h
    show loopA rec f p c e H K' (cfg.live f (firstId c)) = some r
    revert h'
    cases cfg.live f (firstId c) with
    | none =>
      intro h'
      unfold loopA loopK0 at h' ⊢
      simp only at h' ⊢
      split at h'
      · exact hK _ _ _ _ h'
      · cases h'
    | some q =>
      obtain ⟨ins, outs, k⟩ := q
      intro h'
      unfold loopA at h' ⊢
      simp only at h' ⊢
      cases hl : (lvOk e.n ins && lvOk e.n outs) with
      | false => rw [hl, cond_false] at h'; cases h'
      | true =>
        rw [hl, cond_true] at h'
        rw [cond_true]
        revert h'
        cases normA H p (evs e ins) with
        | none => intro h'; cases h'
        | some N =>
          intro h'
          unfold loopN loopK at h' ⊢
          simp only at h' ⊢
          split at h'
          · cases hk : Nat.beq k 999999 with
            | true => rw [hk, cond_true] at h'; rw [cond_true]; exact hK _ _ _ _ h'
            | false =>
              rw [hk, cond_false] at h'
              rw [cond_false]
              rename_i x e1 H1 _
              cases hq : (Nat.beq H1.n k && okKey k) with
              | false => rw [hq, cond_false] at h'; cases h'
              | true => rw [hq, cond_true] at h'; rw [cond_true]; exact hK _ _ _ _ h'
          · cases h'
  | _ => intro K K' hK e H r h; cases h

theorem resR_eq (H : AH) (e : Env) : ∀ (rs : List ResultVar), resultsA P H e rs = resR H e (rs.map (compRes P)) := by
  intro rs
  induction rs with
  | nil => rfl
  | cons x r ih =>
    simp only [resultsA, List.map_cons, resR, ih]
    cases resA H e (compRes P x) <;> cases resR H e (r.map (compRes P)) <;> rfl

/-- Behind a function's text. -/
def retR (P : Program) (raw : Bool) (p : Nat) (rs : List CRes) : KC (Out × AH) := fun x e H => bif isEnd x then valK P raw p H (resR H e rs) else none

theorem retR_eq {raw : Bool} {p : Nat} {rs : List ResultVar} : retR P raw p (rs.map (compRes P)) = retK P raw p rs := by
  funext x e H
  simp only [retR, retK, resR_eq]

theorem call_ok {cfg : Cfg} {f : FuncId} {F : RF} (hF : trF P f = some F) {rec : Rec} {args : List Value} {H : AH} {r : Out × AH} (ha : args.length ≤ F.n) (hn : F.n ≤ 1099511627774)
    (h : codeR P cfg f H.n rec F.code (retR P (cfg.raw f).2 H.n F.res) { n := F.n, t := envOf args 0 .leaf, g := (cfg.glob, cfg.own f) } H = some r) : denStep P cfg rec (.call f args) H = some r := by
  unfold trF at hF
  show callF P cfg rec f args H P.funcs[f]? = some r
  split at hF
  · rename_i fn hfn
    split at hF
    · rename_i c hc
      cases hF
      rw [hfn]
      simp only [callF, hc]
      have h1 : Nat.ble args.length fn.ntmps = true := Nat.ble_eq_true_of_le ha
      have h2 : okKey fn.ntmps = true := Nat.ble_eq_true_of_le hn
      rw [h1, h2]
      simp only [Bool.and_self, cond_true]
      rw [retR_eq] at h
      exact codeR_ok c _ _ (fun _ _ _ _ h => h) _ _ _ h
    · cases hF
  · cases hF

theorem loop_step {cfg : Cfg} {f : FuncId} {p : Nat} {c : Code} {rc : RC} (hc : trC P c = rc) {rec : Rec} {e : Env} {H : AH} {r : Out × AH}
    (h : codeR P cfg f p rec rc (roundK rec f p c (cfg.live f (firstId c))) e H = some r) : denStep P cfg rec (.loop f p c e) H = some r := by
  show codeA P cfg f p rec c (roundK rec f p c (cfg.live f (firstId c))) e H = some r
  subst hc
  exact codeR_ok c _ _ (fun _ _ _ _ h => h) _ _ _ h

end
end Go.Den
