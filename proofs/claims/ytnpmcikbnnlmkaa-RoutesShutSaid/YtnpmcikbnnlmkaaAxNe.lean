import Derived.Test.YtnpmcikbnnlmkaaAxWk
/-! A return out of loops within loops. -/
namespace Go.AX
variable {P : Program}

/-- What holds at the function's end holds behind these rounds. -/
def Pass (post fin : Exit → St → Prop) : Prop := ∀ st, fin .ret st → post .ret st

theorem Pass.refl (post : Exit → St → Prop) : Pass post post := fun _ h => h

theorem TK.ret {m : Nat} {post : Exit → St → Prop} {st : St} (h : post .ret st) : ∀ k : List Kt, TK P m post k .ret st := by
  intro k
  induction k with
  | nil => exact h
  | cons x k ih =>
    cases x with
    | code c => exact ih
    | blk id => exact ih
    | rnd c => exact ih

theorem Pass.up {m : Nat} {post fin : Exit → St → Prop} (h : Pass post fin) (R : St → Prop) (k : List Kt) : Pass (andThen R (TK P m post k)) fin := fun st hf => TK.ret (h st hf) k

/-- The function's end, reached by a return. -/
def endT (P : Program) (fn : Func) (m : Nat) (σ fz : List Nat) (x : Option (Out × St × Prop)) : Option (List (Option Blk) × AV × Prop) :=
  match x with
  | some (.done .ret, _, _) => endF P fn m σ fz x
  | _ => none

theorem endT_spec {fn : Func} {m : Nat} {σ fz : List Nat} {x : Option (Out × St × Prop)} {hout : List (Option Blk)} {res : AV} {p : Prop} {post : Exit → St → Prop} (h : endT P fn m σ fz x = some (hout, res, p)) (hp : p) (hP : Pass post (Fin P fn m hout res)) :
    ∃ o st q, x = some (o, st, q) ∧ q ∧ Rest P m post st o := by
  unfold endT at h
  split at h
  case h_2 => cases h
  obtain ⟨o, st, q, h1, h2, h3⟩ := endF_spec h hp
  cases h1
  exact ⟨_, _, _, rfl, h2, hP _ h3⟩

/-! Nil slices in blocks told as empty lists. -/

def wkE : AV → AV
  | .agg cs => .agg (cs.map wk1)
  | v => wk1 v

theorem wkE_cells (e : AV) : (wkE e).cells = e.cells.map wk1 := by
  cases e <;> rfl

def wkB (blk : Blk) : Blk := { blk with es := blk.es.map wkE }

def wkH : List (Option Blk) → List (Option Blk)
  | [] => []
  | some b :: r => some (wkB b) :: wkH r
  | none :: r => none :: wkH r

theorem nth_wkH : ∀ (hp : List (Option Blk)) (b : Nat), nth (wkH hp) b = (nth hp b).map wkB := by
  intro hp
  induction hp with
  | nil => intro b; cases b <;> rfl
  | cons x r ih =>
    intro b
    cases x <;> cases b <;> first | rfl | exact ih _

theorem wkH_len : ∀ (hp : List (Option Blk)), (wkH hp).length = hp.length := by
  intro hp
  induction hp with
  | nil => rfl
  | cons x r ih => cases x <;> simp [wkH, ih]

theorem wk1_one {c : AV} (h : c.one = true) : (wk1 c).one = true := by cases c <;> first | exact h | rfl
theorem wk1_noref {c : AV} (h : c.noref = true) : (wk1 c).noref = true := by cases c <;> first | exact h | rfl

theorem Mut_wk {φ : Phi} {hp : List (Option Blk)} {r : Nat} : Mut φ (nth (wkH hp)) r ↔ Mut φ (nth hp) r := by
  constructor
  · rintro ⟨b, blk, z, h1, h2, h3⟩
    rw [nth_wkH] at h1
    obtain ⟨blk', h4, rfl⟩ := Option.map_eq_some_iff.1 h1
    exact ⟨b, blk', z, h4, h2, h3⟩
  · rintro ⟨b, blk, z, h1, h2, h3⟩
    exact ⟨b, wkB blk, z, by rw [nth_wkH, h1]; rfl, h2, h3⟩

theorem HR.wk {φ : Phi} {A : Nat → Prop} {w : World} {hp : List (Option Blk)} (h : HR φ A w (nth hp)) : HR φ A w (nth (wkH hp)) := by
  refine ⟨fun b blk hb => ?_, fun b blk hb hf => ?_, fun b b' r z z' hb hb' => h.inj b b' r z z' ?_ ?_⟩
  · rw [nth_wkH] at hb
    obtain ⟨blk', h4, rfl⟩ := Option.map_eq_some_iff.1 hb
    rcases h.blk b blk' h4 with ⟨h1, h2, h3⟩ | ⟨r, cs, T, h1, h2, h3, h5⟩
    · exact .inl ⟨by simp [wkB, h1], h2, h3⟩
    · refine .inr ⟨r, cs, T, h1, h2, by simpa [wkB] using h3, fun i e he => ?_⟩
      simp only [wkB, List.getElem?_map] at he
      obtain ⟨e', he', rfl⟩ := Option.map_eq_some_iff.1 he
      obtain ⟨g1, g2⟩ := h5 i e' he'
      refine ⟨by rw [wkE_cells]; simpa [wkB] using g1, fun j c hc => ?_⟩
      rw [wkE_cells, List.getElem?_map] at hc
      obtain ⟨c', hc', rfl⟩ := Option.map_eq_some_iff.1 hc
      obtain ⟨g3, v, g4, g5⟩ := g2 j c' hc'
      exact ⟨wk1_one g3, v, g4, g5.wk1⟩
  · rw [nth_wkH] at hb
    obtain ⟨blk', h4, rfl⟩ := Option.map_eq_some_iff.1 hb
    intro e he c hc
    obtain ⟨e', he', rfl⟩ := List.mem_map.1 he
    rw [wkE_cells] at hc
    obtain ⟨c', hc', rfl⟩ := List.mem_map.1 hc
    exact wk1_noref (h.flat b blk' h4 hf e' he' c' hc')
  · rw [nth_wkH] at hb; simpa using hb
  · rw [nth_wkH] at hb'; simpa using hb'

def wkSH (st : St) : St := { st with hp := wkH st.hp }

theorem T.nilH {m : Nat} {c : Code} {st : St} {post : Exit → St → Prop} (h : T P m c (wkSH st) post) : T P m c st post := by
  refine T.ren (st' := wkSH st) (fun A0 n0 φ a w hm hr => ?_) h
  have hok : ∀ r, Ok A0 n0 φ st.h w r → Ok A0 n0 φ (wkSH st).h w r := fun r ⟨h1, h2, h3⟩ => ⟨h1, h2, fun h => h3 (Mut_wk.1 h)⟩
  refine ⟨φ, ⟨hr.defs, hr.size, fun s => (hr.slot s).mono (fun _ _ h => h) hok (fun _ _ => rfl) (fun _ => Nat.le_refl _), ?_, fun b hb => hr.out b (by simpa [wkSH, wkH_len] using hb), hr.base, hr.own⟩, by simpa [wkSH, wkH_len] using hm, fun _ _ => rfl, Keep.refl _ w, fun r h => .inl (Mut_wk.1 h)⟩
  have := hr.heap.wk
  refine ⟨fun b blk hb => ?_, this.flat, this.inj⟩
  rcases this.blk b blk hb with h1 | ⟨r, cs, T, h1, h2, h3, h5⟩
  · exact .inl h1
  · refine .inr ⟨r, cs, T, h1, h2, h3, fun i e he => ⟨(h5 i e he).1, fun j c hc => ?_⟩⟩
    obtain ⟨g3, v, g4, g5⟩ := (h5 i e he).2 j c hc
    exact ⟨g3, v, g4, g5.mono (fun _ _ h => h) hok (fun _ _ => rfl) (fun _ => Nat.le_refl _)⟩

/-! A body cut between its statements. -/

def sL : Code → Code
  | .seq a _ => a
  | c => c

def sR : Nat → Code → Code
  | 0, c => c
  | k + 1, .seq _ b => sR k b
  | _, c => c

def isSeq : Code → Bool
  | .seq _ _ => true
  | _ => false

theorem T.cut {m : Nat} {c : Code} {st : St} {post : Exit → St → Prop} (hs : isSeq c = true) (h : T P m (sL c) st (andThen (fun st' => T P m (sR 1 c) st' post) post)) : T P m c st post := by
  cases c <;> simp [isSeq] at hs
  exact T.seq h

theorem sR_succ : ∀ (k : Nat) (c : Code), isSeq (sR k c) = true → sR 1 (sR k c) = sR (k + 1) c := by
  intro k
  induction k with
  | zero => intro c h; rfl
  | succ k ih =>
    intro c h
    cases c <;> first | exact ih _ h | cases h

end Go.AX
