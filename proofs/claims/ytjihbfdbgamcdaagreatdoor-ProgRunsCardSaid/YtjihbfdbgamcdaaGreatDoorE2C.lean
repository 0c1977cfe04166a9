/-
  THE ENGINE, part C: an operation that touches no memory is run as it stands.
-/
import Derived.Test.YtjihbfdbgamcdaaGreatDoorE2B
namespace Go.Den
noncomputable section

def pureRun (P : Program) {α : Type} : Sem α → Option α
  | .pure a => some a
  | .program k => pureRun P (k P)
  | .mark _ k => pureRun P k
  | .choose q k => if q.forced then pureRun P (k 0) else none
  | _ => none

theorem pureRun_run {P : Program} {α : Type} (s : Sem α) : ∀ (a : α), pureRun P s = some a → ∀ w, s.run P w = .ok a w := by
  induction s with
  | pure a => intro b h w; simp only [pureRun, Option.some.injEq] at h; subst h; rfl
  | program k ih => intro b h w; exact ih P b h w
  | mark m k ih => intro b h w; exact ih b h w
  | choose q k ih =>
    intro b h w
    simp only [pureRun] at h
    split at h
    · rename_i hq
      simp only [Sem.run, hq, if_true]
      exact ih 0 b h w
    · cases h
  | _ => intro b h; simp [pureRun] at h

theorem map_congr_of {f g : Operand → Value} (l : Array Operand) (h : ∀ x ∈ l.toList, f x = g x) : l.map f = l.map g := by
  apply Array.map_congr_left
  intro a ha
  exact h a (by simpa using ha)

theorem opt_congr {f g : Operand → Value} (l : Option Operand) (h : ∀ x ∈ l.toArray.toList, f x = g x) : l.map f = l.map g := by
  cases l with
  | none => rfl
  | some x => simp at h; simp [h]

theorem parts_congr {f g : Operand → Value} (l : Array (Nat × Operand)) (h : ∀ x ∈ (l.toList.map (·.2)), f x = g x) :
    (l.map fun (i, x) => (i, f x)) = l.map fun (i, x) => (i, g x) := by
  apply Array.map_congr_left
  rintro ⟨i, x⟩ ha
  have : f x = g x := h x (by simp; exact ⟨i, by simpa using ha⟩)
  simp [this]

/-- Operations of kinds that are served. -/
def opKind : Op → Bool
  | .go _ | .defer _ | .select _ _ | .send _ _ | .recv _ _ _ | .panic _ => false
  | _ => true

theorem execOp_congr {f g : Operand → Value} (o : Oper) (hk : opKind o.op = true) (h : ∀ x ∈ o.op.operands.toList, f x = g x) : execOp f o = execOp g o := by
  obtain ⟨dst, op, type, pos, after, guard⟩ := o
  simp only at h hk
  cases op with
  | go c => simp [opKind] at hk
  | «defer» c => simp [opKind] at hk
  | select c b => simp [opKind] at hk
  | send c b => simp [opKind] at hk
  | recv c b d => simp [opKind] at hk
  | «panic» c => simp [opKind] at hk
  | build t parts => simp only [execOp]; rw [parts_congr parts (fun x hx => h x (by simpa [Op.operands] using hx))]
  | buildSlice t len parts => simp only [execOp]; rw [parts_congr parts (fun x hx => h x (by simpa [Op.operands] using hx))]
  | makeFunc fn a b => simp only [execOp]; rw [map_congr_of a (fun x hx => h x (by simp [Op.operands]; exact .inl (by simpa using hx))), map_congr_of b (fun x hx => h x (by simp [Op.operands]; exact .inr (by simpa using hx)))]
  | makeMap t r => simp only [execOp]; rw [opt_congr r (fun x hx => h x (by simpa [Op.operands] using hx))]
  | slice t x l m r =>
    simp only [execOp]
    rw [h x (by simp [Op.operands]), opt_congr l (fun x hx => h x (by simp [Op.operands]; simp at hx; simp [hx])), opt_congr m (fun x hx => h x (by simp [Op.operands]; simp at hx; simp [hx])), opt_congr r (fun x hx => h x (by simp [Op.operands]; simp at hx; simp [hx]))]
  | call c =>
    obtain ⟨callee, args, at_⟩ := c
    simp only [execOp, resolve]
    rw [map_congr_of args (fun x hx => h x (by simp [Op.operands, Call.operands]; exact .inr (by simpa using hx)))]
    cases callee with
    | value x => have e := h x (by simp [Op.operands, Call.operands]); simp only [e]
    | invoke x n => have e := h x (by simp [Op.operands, Call.operands]); simp only [e]
    | builtin b => rfl
  | nilCheck x => simp only [execOp]; rw [h x (by simp [Op.operands])]
  | _ => simp [Op.operands] at h; simp only [execOp, h]

end
end Go.Den
