/-
  THE ENGINE FOR UNKNOWN VALUES, part L: what enough fuel comes to, as one function: a text made ready that comes to something there, comes to it by the engine.
-/
import Derived.Test.YtdbhfmdndiphcaaE3F
namespace Go.Den
noncomputable section

variable {P : Program} {cfg : Cfg} {R : Type}

open Classical in
/-- What enough fuel comes to. -/
def lim (P : Program) (cfg : Cfg) : Rec := fun t H => if h : ∃ r, Ev P cfg t H r then some h.choose else none

theorem Ev.same {t : Task} {H : AH} {r r' : Out × AH} (h : Ev P cfg t H r) (h' : Ev P cfg t H r') : r = r' := by
  obtain ⟨n, h⟩ := h
  obtain ⟨m, h'⟩ := h'
  have h1 : den P cfg (max n m) t H = some r := h (max n m) (Nat.le_max_left _ _)
  have h2 : den P cfg (max n m) t H = some r' := h' (max n m) (Nat.le_max_right _ _)
  rw [h1] at h2
  exact Option.some.inj h2

theorem lim_ev {t : Task} {H : AH} {r : Out × AH} : lim P cfg t H = some r ↔ Ev P cfg t H r := by
  unfold lim
  constructor
  · intro h
    split at h
    · rename_i hx
      cases h
      exact hx.choose_spec
    · cases h
  · intro h
    have hx : ∃ r, Ev P cfg t H r := ⟨r, h⟩
    rw [dif_pos hx, hx.choose_spec.same h]

/-- What it comes to there, enough fuel comes to. -/
def Co (P : Program) (cfg : Cfg) (F : Rec → Option R) : Prop := ∀ r, F (lim P cfg) = some r → Evt P cfg F r

theorem Co.const (x : Option R) : Co P cfg (fun _ => x) := fun _ h => Evt.of fun _ => h
theorem Co.task (t : Task) (H : AH) : Co P cfg (fun rec => rec t H) := fun _ h => lim_ev.1 h
theorem Co.bind {G : Rec → Option (Out × AH) → Option R} (t : Task) (H : AH) (h0 : ∀ rec, G rec none = none) (h : ∀ s, Co P cfg (fun rec => G rec (some s))) : Co P cfg (fun rec => G rec (rec t H)) := by
  intro r hr
  have hr0 : G (lim P cfg) (lim P cfg t H) = some r := hr
  cases hs : lim P cfg t H with
  | none => rw [hs, h0] at hr0; cases hr0
  | some s =>
    have hr' : G (lim P cfg) (some s) = some r := by rw [← hs]; exact hr0
    exact Evt.bind (A := fun rec => rec t H) (F := G) (lim_ev.1 hs) (h s r hr')

section
variable {W : Rec → Did → Option R}

theorem Co.call1 (h0 : ∀ rec, W rec .none = none) (h : ∀ d, Co P cfg (fun rec => W rec d)) (f : FuncId) (H : AH) (s : Option (List Value × Frs)) : Co P cfg (fun rec => W rec (callS1 rec f H s)) := by
  cases s with
  | none => exact h .none
  | some q =>
    obtain ⟨a, fr⟩ := q
    show Co P cfg (fun rec => W rec (callS2 rec f H (raise H fr) fr a (normA (raise H fr) 0 a)))
    cases normA (raise H fr) 0 a with
    | none => exact h .none
    | some N => exact Co.bind (G := fun rec o => W rec (callS3 H (raise H fr) fr N.L (cmpsOf (raise H fr) (refsL a ++ blocksRefs (raise H fr) N.L) 0 N.L 0) o)) (.call f (renVL N.m a)) N.H (fun rec => h0 rec) (fun s => h _)

theorem Co.callS (h0 : ∀ rec, W rec .none = none) (h : ∀ d, Co P cfg (fun rec => W rec d)) (f : FuncId) (args : List Value) (H : AH) : Co P cfg (fun rec => W rec (callS P cfg rec f args H)) := by
  show Co P cfg (fun rec => W rec (callK rec f H (bif (cfg.raw f).1 then some (args, []) else sealL P H 20 args) (cfg.know f)))
  cases cfg.know f with
  | none => exact Co.call1 h0 h f H _
  | some g =>
    cases (bif (cfg.raw f).1 then some (args, []) else sealL P H 20 args) with
    | none => exact h .none
    | some q =>
      obtain ⟨a, fr⟩ := q
      show Co P cfg (fun rec => W rec (callG rec f H a fr (g a)))
      cases g a with
      | some v => exact h _
      | none => exact Co.call1 h0 h f H (some (a, fr))

theorem Co.did (h0 : ∀ rec, W rec .none = none) (h : ∀ d, Co P cfg (fun rec => W rec d)) (wr : List Nat) (H : AH) (x : ARes) : Co P cfg (fun rec => W rec (didRes (Go.Den.callS P cfg rec) wr H x)) := by
  cases x with
  | none => exact h .none
  | simple v b => cases b <;> exact h _
  | eff v H' => exact h _
  | call f args => exact Co.callS h0 h f args H

theorem Co.stepR (h0 : ∀ rec, W rec .none = none) (h : ∀ d, Co P cfg (fun rec => W rec d)) (e : Env) (H : AH) (ri : RI) : Co P cfg (fun rec => W rec (Go.Den.stepR P (Go.Den.callS P cfg rec) e H ri)) := by
  cases ri with
  | ins i => exact Co.did h0 h (effWr e i) H (insA P e H H.n i)
  | bad => exact h .none
  | _ => exact Co.did h0 h [] H _
end

theorem opsR_co : ∀ (l : List RO) (K : Rec → KR R) (e : Env) (H : AH), (∀ e H, Co P cfg (fun rec => K rec e H)) → Co P cfg (fun rec => opsR P (callS P cfg rec) (K rec) l e H) := by
  intro l
  induction l with
  | nil => intro K e H hK; exact hK e H
  | cons o l ih =>
    intro K e H hK
    show Co P cfg (fun rec => opsK (didG (gsel o.guard e) (stepR P (callS P cfg rec) e H o.ins) H) o.dst e (opsR P (callS P cfg rec) (K rec) l))
    cases gsel o.guard e with
    | none => exact Co.const none
    | some b =>
      cases b with
      | false => exact ih K _ _ hK
      | true =>
        refine Co.stepR (W := fun rec d => opsK d o.dst e (opsR P (callS P cfg rec) (K rec) l)) (fun _ => rfl) (fun d => ?_) e H o.ins
        cases d with
        | none => exact Co.const none
        | did v nb eff H' wr => exact ih K _ _ hK

theorem opsDR_co (before : Array Nat) : ∀ (l : List RO) (K : Rec → KR R) (i : Nat) (acc : List Ti) (e : Env) (H : AH), (∀ e H, Co P cfg (fun rec => K rec e H)) → Co P cfg (fun rec => opsDR P (callS P cfg rec) before (K rec) l i acc e H) := by
  intro l
  induction l with
  | nil =>
    intro K i acc e H hK
    show Co P cfg (fun rec => bif chainTi before acc.reverse && sepAll before acc then K rec e H else none)
    cases chainTi before acc.reverse && sepAll before acc with
    | true => exact hK e H
    | false => exact Co.const none
  | cons o l ih =>
    intro K i acc e H hK
    show Co P cfg (fun rec => opsKR (didG (gsel o.guard e) (stepR P (callS P cfg rec) e H o.ins) H) o i acc e H (opsDR P (callS P cfg rec) before (K rec) l))
    cases gsel o.guard e with
    | none => exact Co.const none
    | some b =>
      cases b with
      | false => exact ih K _ _ _ _ hK
      | true =>
        refine Co.stepR (W := fun rec d => opsKR d o i acc e H (opsDR P (callS P cfg rec) before (K rec) l)) (fun _ => rfl) (fun d => ?_) e H o.ins
        cases d with
        | none => exact Co.const none
        | did v nb eff H' wr => exact ih K _ _ _ _ hK

theorem codeR_co {f : FuncId} {p : Nat} : ∀ (rc : RC) (K : Rec → KC R), (∀ x e H, Co P cfg (fun rec => K rec x e H)) → ∀ e H, Co P cfg (fun rec => codeR P cfg f p rec rc (K rec) e H) := by
  intro rc
  induction rc with
  | skip => intro K hK e H; exact hK _ _ _
  | ret => intro K hK e H; exact hK _ _ _
  | exit id => intro K hK e H; exact hK _ _ _
  | bad => intro K hK e H; exact Co.const none
  | ops l => intro K hK e H; exact opsR_co l (fun rec => K rec .normal) e H (hK .normal)
  | draw b l => intro K hK e H; exact opsDR_co b l (fun rec => K rec .normal) 0 [] e H (hK .normal)
  | seq a b iha ihb =>
    intro K hK e H
    refine iha (fun rec => seqK (codeR P cfg f p rec b (K rec)) (K rec)) (fun x e H => ?_) e H
    cases x with
    | normal => exact ihb K hK e H
    | _ => exact hK _ _ _
  | cond c a b iha ihb =>
    intro K hK e H
    show Co P cfg (fun rec => condV (evl e c) (codeR P cfg f p rec a (K rec) e H) (codeR P cfg f p rec b (K rec) e H))
    cases evl e c with
    | bool q =>
      cases q with
      | true => exact iha K hK e H
      | false => exact ihb K hK e H
    | _ => exact Co.const none
  | block id a ih =>
    intro K hK e H
    refine ih (fun rec => blockK id (K rec)) (fun x e H => ?_) e H
    cases x with
    | exit j =>
      show Co P cfg (fun rec => bif Nat.beq j id then K rec .normal e H else K rec (.exit j) e H)
      cases Nat.beq j id with
      | true => exact hK _ _ _
      | false => exact hK _ _ _
    | _ => exact hK _ _ _
  | loop c =>
    intro K hK e H
    show Co P cfg (fun rec => loopA rec f p c e H (K rec) (cfg.live f (firstId c)))
    cases cfg.live f (firstId c) with
    | none =>
      refine Co.bind (G := fun rec o => loopK0 (K rec) o) (.loop f p c e) H (fun _ => rfl) (fun s => ?_)
      obtain ⟨o, H1⟩ := s
      cases o with
      | code x e1 => exact hK _ _ _
      | val v => exact Co.const none
    | some q =>
      obtain ⟨ins, outs, k⟩ := q
      show Co P cfg (fun rec => bif lvOk e.n ins && lvOk e.n outs then loopN rec f p c e.n e.g ins outs k (evs e ins) (K rec) (normA H p (evs e ins)) else none)
      cases lvOk e.n ins && lvOk e.n outs with
      | false => exact Co.const none
      | true =>
        show Co P cfg (fun rec => loopN rec f p c e.n e.g ins outs k (evs e ins) (K rec) (normA H p (evs e ins)))
        cases normA H p (evs e ins) with
        | none => exact Co.const none
        | some N =>
          refine Co.bind (G := fun rec o => loopK e.n e.g outs k (K rec) o) (.loop f p c (envL e.n e.g ins (renVL N.m (evs e ins)))) N.H (fun _ => rfl) (fun s => ?_)
          obtain ⟨o, H1⟩ := s
          cases o with
          | val v => exact Co.const none
          | code x e1 =>
            show Co P cfg (fun rec => bif Nat.beq k 999999 then K rec x (envL e.n e.g outs (evs e1 outs)) H1 else (bif Nat.beq H1.n k && okKey k then K rec x (envL e.n e.g outs (evs e1 outs)) (heapOf (getsA H1 0 k) AH0) else none))
            cases Nat.beq k 999999 with
            | true => exact hK _ _ _
            | false =>
              show Co P cfg (fun rec => bif Nat.beq H1.n k && okKey k then K rec x (envL e.n e.g outs (evs e1 outs)) (heapOf (getsA H1 0 k) AH0) else none)
              cases Nat.beq H1.n k && okKey k with
              | true => exact hK _ _ _
              | false => exact Co.const none

theorem roundK_co {f : FuncId} {p : Nat} {c : Code} (lv : Option (List Tmp × List Tmp × Nat)) (x : AExit) (e : Env) (H : AH) : Co P cfg (fun rec => roundK rec f p c lv x e H) := by
  cases lv with
  | none => cases x <;> first | exact Co.task _ _ | exact Co.const _
  | some q =>
    obtain ⟨ins, outs, k⟩ := q
    show Co P cfg (fun rec => bif lvOk e.n ins && lvOk e.n outs then loopEnd ins outs e.n e.g rec f p c x e H else none)
    cases lvOk e.n ins && lvOk e.n outs with
    | false => exact Co.const none
    | true =>
      show Co P cfg (fun rec => loopEnd ins outs e.n e.g rec f p c x e H)
      cases x with
      | normal =>
        unfold loopEnd
        simp only
        cases normA H p (evs e ins) with
        | none => exact Co.const none
        | some N => exact Co.task _ _
      | _ =>
        unfold loopEnd
        exact Co.const _

/-- A function's run. -/
theorem lim_call (hc : Plain cfg) {f : FuncId} {F : RF} (hF : trF P f = some F) {args : List Value} {h : List ABlk} {r : Out × AH} (ha : args.length ≤ F.n) (hn : F.n ≤ 1099511627774)
    (h1 : codeR P cfg f h.length (lim P cfg) F.code (retR P false h.length F.res) (SE (E0 F.n (cfg.glob, cfg.own f)) (argl args 0 [])) (HP h) = some r) : lim P cfg (.call f args) (HP h) = some r := by
  refine lim_ev.2 (Ev.step ?_)
  have h2 := codeR_co (P := P) (cfg := cfg) (f := f) (p := h.length) F.code (fun _ => retR P false h.length F.res) (fun _ _ _ => Co.const _) _ _ r h1
  refine h2.mono fun rec h3 => ?_
  refine call_ok hF ha hn ?_
  have h4 : (⟨F.n, envOf args 0 .leaf, (cfg.glob, cfg.own f)⟩ : Env) = SE (E0 F.n (cfg.glob, cfg.own f)) (argl args 0 []) := argl_env F.n _ args 0 [] .leaf (by omega) rfl
  rw [h4, hc.raw, HP_n]
  exact h3

/-- A loop's round. -/
theorem lim_loop {f : FuncId} {p : Nat} {c : Code} {rc : RC} (hrc : trC P c = rc) {e : Env} {H : AH} {r : Out × AH} (h1 : codeR P cfg f p (lim P cfg) rc (roundK (lim P cfg) f p c (cfg.live f (firstId c))) e H = some r) : lim P cfg (.loop f p c e) H = some r := by
  refine lim_ev.2 (Ev.step ?_)
  have h2 := codeR_co (P := P) (cfg := cfg) (f := f) (p := p) rc (fun rec => roundK rec f p c (cfg.live f (firstId c))) (fun x e H => roundK_co _ x e H) _ _ r h1
  exact h2.mono fun rec h3 => loop_step hrc h3

end
end Go.Den
