import Derived.Test.YtoofpaocoogbjaaAxWk
/-! A return out of loops within loops. -/
namespace Go.AX
variable {P : Program}

/-- What holds at the function's end holds behind these rounds. -/
def Pass (post fin : Exit → St → Prop) : Prop := ∀ st, fin .ret st → post .ret st

theorem Pass.refl (post : Exit → St → Prop) : Pass post post := fun _ h => h

theorem TK.ret {m : Nat} {post : Exit → St → Prop} {st : St} (h : post .ret st) : ∀ k : List Kt, TK P m post k .ret st := by
  intro k
  induction k with
  | nil => exact h
  | cons x k ih =>
    cases x with
    | code c => exact ih
    | blk id => exact ih
    | rnd c => exact ih

theorem Pass.up {m : Nat} {post fin : Exit → St → Prop} (h : Pass post fin) (R : St → Prop) (k : List Kt) : Pass (andThen R (TK P m post k)) fin := fun st hf => TK.ret (h st hf) k

/-- The function's end, reached by a return. -/
def endT (P : Program) (fn : Func) (m : Nat) (σ fz : List Nat) (x : Option (Out × St × Prop)) : Option (List (Option Blk) × AV × Prop) :=
  match x with
  | some (.done .ret, _, _) => endF P fn m σ fz x
  | _ => none

theorem endT_spec {fn : Func} {m : Nat} {σ fz : List Nat} {x : Option (Out × St × Prop)} {hout : List (Option Blk)} {res : AV} {p : Prop} {post : Exit → St → Prop} (h : endT P fn m σ fz x = some (hout, res, p)) (hp : p) (hP : Pass post (Fin P fn m hout res)) :
    ∃ o st q, x = some (o, st, q) ∧ q ∧ Rest P m post st o := by
  unfold endT at h
  split at h
  case h_2 => cases h
  obtain ⟨o, st, q, h1, h2, h3⟩ := endF_spec h hp
  cases h1
  exact ⟨_, _, _, rfl, h2, hP _ h3⟩

end Go.AX
