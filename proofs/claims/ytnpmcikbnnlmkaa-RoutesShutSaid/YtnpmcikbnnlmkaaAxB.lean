import Derived.Test.YtnpmcikbnnlmkaaAxA
/-! Abstract states, their relation to the model's, and what one operation does. -/
namespace Go.AX

def look : List (Nat × AV) → Nat → AV
  | [], _ => .unk
  | (k, v) :: r, s => match Nat.beq k s with | true => v | false => look r s

structure St where
  n : Nat
  fr : List (Nat × AV)
  hp : List (Option Blk)

def nth {α : Type} : List (Option α) → Nat → Option α
  | [], _ => none
  | x :: _, 0 => x
  | _ :: r, n + 1 => nth r n

abbrev Hp := Nat → Option Blk

def St.h (st : St) : Hp := nth st.hp

/-- Real blocks that a local block which may be written lies in. -/
def Mut (φ : Phi) (h : Hp) (r : Nat) : Prop := ∃ b blk z, h b = some blk ∧ blk.wr = true ∧ φ b = some (r, z)

/-- What is known of a local block. -/
def BR (φ : Phi) (A : Nat → Prop) (w : World) (b : Nat) (blk : Blk) : Prop :=
  (blk.es = [] ∧ φ b = none ∧ blk.wr = true) ∨
  ∃ r cs T, φ b = some (r, blk.z) ∧ w.heap[r]? = some (.cells cs T (0, 0)) ∧ blk.es.length * blk.z ≤ cs.size ∧
    ∀ (i : Nat) e, blk.es[i]? = some e → e.cells.length = blk.z ∧
      ∀ (j : Nat) c, e.cells[j]? = some c → c.one = true ∧ ∃ v, cs[i * blk.z + j]? = some v ∧ VR φ A w c v

structure HR (φ : Phi) (A : Nat → Prop) (w : World) (h : Hp) : Prop where
  blk : ∀ b blk, h b = some blk → BR φ A w b blk
  flat : ∀ b blk, h b = some blk → blk.flat = true → Noref blk.es
  inj : ∀ b b' r z z', (h b).isSome = true → (h b').isSome = true → φ b = some (r, z) → φ b' = some (r, z') → b = b'

/-- What a step leaves of the world: nothing but the blocks 'D' has turned. -/
structure Keep (D : Nat → Prop) (w w' : World) : Prop where
  os : w'.os = w.os
  tape : w'.tape = w.tape
  output : w'.output = w.output
  size : w.heap.size ≤ w'.heap.size
  block : ∀ r, r < w.heap.size → ¬ D r → w'.heap[r]? = w.heap[r]?
  row : ∀ r, rowSize w r ≤ rowSize w' r

theorem Keep.refl (D : Nat → Prop) (w : World) : Keep D w w := ⟨rfl, rfl, rfl, Nat.le_refl _, fun _ _ _ => rfl, fun _ => Nat.le_refl _⟩

theorem Keep.mono {D D' : Nat → Prop} {w w' : World} (h : Keep D w w') (hD : ∀ r, D r → D' r) : Keep D' w w' :=
  ⟨h.os, h.tape, h.output, h.size, fun r hr hn => h.block r hr fun hd => hn (hD r hd), h.row⟩

theorem Keep.trans {D D' : Nat → Prop} {w w' w'' : World} (h : Keep D w w') (k : Keep D' w' w'') (hD : ∀ r, D' r → D r ∨ w.heap.size ≤ r) : Keep D w w'' :=
  ⟨k.os.trans h.os, k.tape.trans h.tape, k.output.trans h.output, Nat.le_trans h.size k.size,
    fun r hr hn => (k.block r (Nat.lt_of_lt_of_le hr h.size) fun hd => (hD r hd).elim hn (by omega)).trans (h.block r hr hn),
    fun r => Nat.le_trans (h.row r) (k.row r)⟩

/-- What an operation does to the abstract state: its value, the local blocks that end, those that turn, those that are new. -/
structure OpR where
  v : AV
  dead : List Nat := []
  chg : List (Nat × Blk) := []
  new : List Blk := []

def OpR.dirty (R : OpR) (b : Nat) : Prop := b ∈ R.dead ∨ ∃ blk, (b, blk) ∈ R.chg

/-- The real blocks of the new local ones. -/
def New (φ : Phi) (nb : Nat) (r : Nat) : Prop := ∃ b z, nb ≤ b ∧ φ b = some (r, z)

def Grow (A : Nat → Prop) (φ : Phi) (nb : Nat) (w w' : World) (r : Nat) : Prop :=
  A r ∨ (w.heap.size ≤ r ∧ r < w'.heap.size ∧ ¬ New φ nb r)

structure Eff (φ : Phi) (A : Nat → Prop) (w : World) (h : Hp) (nb : Nat) (R : OpR) (v' : Value) (w' : World) (φ' : Phi) : Prop where
  keep : Keep (fun r => ∃ b z, R.dirty b ∧ φ b = some (r, z)) w w'
  old : ∀ b, b < nb → φ' b = φ b
  out : ∀ b, nb + R.new.length ≤ b → φ' b = none
  fresh : ∀ b r z, nb ≤ b → φ' b = some (r, z) → w.heap.size ≤ r ∧ r < w'.heap.size ∨ ∃ b0 z0 blk, b0 ∈ R.dead ∧ h b0 = some blk ∧ blk.wr = true ∧ φ b0 = some (r, z0)
  inj : ∀ b b' r z z', nb ≤ b → nb ≤ b' → φ' b = some (r, z) → φ' b' = some (r, z') → b = b'
  val : VR φ' (Grow A φ' nb w w') w' R.v v'
  flc : ∀ b blk, (b, blk) ∈ R.chg → blk.flat = true → Noref blk.es
  fln : ∀ blk, blk ∈ R.new → blk.flat = true → Noref blk.es
  chgd : ∀ b blk, (b, blk) ∈ R.chg → BR φ' (Grow A φ' nb w w') w' b blk
  newb : ∀ k blk, R.new[k]? = some blk → BR φ' (Grow A φ' nb w w') w' (nb + k) blk

/-- One operation, from the abstract view (ev, h) on. -/
def OpOK (P : Program) (o : Oper) (ev : Operand → AV) (h : Hp) (nb : Nat) (R : OpR) : Prop :=
  ∀ (φ : Phi) (A : Nat → Prop) (w : World) (a : Act) (K : Act → World → Prop) (Q : Exit → Act → World → Prop),
    (∀ r, A r → r < w.heap.size ∧ ¬ Mut φ h r) → (∀ x, VR φ A w (ev x) (a.eval x)) → HR φ A w h → (∀ b, nb ≤ b → φ b = none) →
    (∀ v' w' φ', Eff φ A w h nb R v' w' φ' → K (a.put o.dst v') w') → o.wp P a w K Q

/-- An operation that yields a value and leaves memory as it is. -/
theorem OpOK.value {P : Program} {o : Oper} {ev : Operand → AV} {h : Hp} {nb : Nat} {v : AV}
    (H : ∀ (φ : Phi) (A : Nat → Prop) (w : World) (ρ : Operand → Value), (∀ r, A r → r < w.heap.size ∧ ¬ Mut φ h r) → (∀ x, VR φ A w (ev x) (ρ x)) → HR φ A w h →
      ∃ v', (execOp ρ o).run P w = .ok (.value v') w ∧ VR φ A w v v') : OpOK P o ev h nb { v } := by
  intro φ A w a K Q hA hv hh hn k
  obtain ⟨v', hr, hvr⟩ := H φ A w a.eval hA hv hh
  unfold Oper.wp
  rw [hr]
  refine k v' w φ ⟨Keep.refl _ w, fun _ _ => rfl, fun b hb => hn b (by simpa using hb), fun b r z hb h => ?_, fun b b' r z z' hb _ h _ => ?_, ?_, fun b blk hm => by simp at hm, fun blk hm => by simp at hm, ?_, ?_⟩
  · rw [hn b hb] at h; cases h
  · rw [hn b hb] at h; cases h
  · exact hvr.mono (fun _ _ h => h) (fun _ h => .inl h) (fun _ _ => rfl) (fun _ => Nat.le_refl _)
  · intro b blk hm; simp at hm
  · intro b blk hm; simp at hm

theorem VR.one {φ : Phi} {A : Nat → Prop} {w : World} {a : AV} {v : Value} (h : VR φ A w a v) (ha : a.one = true) : v.oneCell' = true := by
  cases h with
  | imm a v h => cases h <;> simp_all [AV.one, Value.oneCell']
  | ptr => rfl
  | sl => rfl
  | slnil => rfl
  | agg => simp [AV.one] at ha
  | tup => simp [AV.one] at ha
  | fn => rfl

end Go.AX
