import Derived.Test.YtnpmcikbnnlmkaaAxB
/-! What a described value looks like; operations that only compute. -/
namespace Go.AX
variable {φ : Phi} {A : Nat → Prop} {w : World}

theorem VR.bool_inv {b : Bool} {v : Value} (h : VR φ A w (.bool b) v) : v = .bool b := by
  cases h with | imm a v h => cases h; rfl
theorem VR.int_inv {k : IntKind} {n : Int} {v : Value} (h : VR φ A w (.int k n) v) : v = .int k n := by
  cases h with | imm a v h => cases h; rfl
theorem VR.str_inv {s : ByteArray} {v : Value} (h : VR φ A w (.str s) v) : v = .string s := by
  cases h with | imm a v h => cases h; rfl
theorem VR.con_inv {c : Value} {v : Value} (h : VR φ A w (.con c) v) : v = c := by
  cases h with | imm a v h => cases h; rfl
theorem VR.nils_inv {v : Value} (h : VR φ A w .nils v) : v = .slice none 0 0 := by
  cases h with | imm a v h => cases h; rfl
theorem VR.ptr_inv {b i j : Nat} {v : Value} (h : VR φ A w (.ptr b i j) v) : ∃ r z, φ b = some (r, z) ∧ v = .pointer (some ⟨r, i * z + j, none⟩) := by
  cases h with
  | imm a v h => cases h
  | ptr b i j r z hb => exact ⟨r, z, hb, rfl⟩
theorem VR.sl_inv {b i n : Nat} {v : Value} (h : VR φ A w (.sl b i n) v) :
    (n = 0 ∧ ∃ a, v = .slice a 0 0) ∨ ∃ r z cap, φ b = some (r, z) ∧ n ≤ cap ∧ (i + cap) * z ≤ rowSize w r ∧ v = .slice (some ⟨r, i * z, none⟩) n cap := by
  cases h with
  | imm a v h => cases h
  | sl b i n r z cap hb hn hr => exact .inr ⟨r, z, cap, hb, hn, hr, rfl⟩
  | slnil b i a => exact .inl ⟨rfl, a, rfl⟩
theorem VR.agg_inv {cs : List AV} {v : Value} (h : VR φ A w (.agg cs) v) :
    ∃ vs : List Value, v = .agg vs.toArray ∧ vs.length = cs.length ∧ ∀ (i : Nat) c u, cs[i]? = some c → vs[i]? = some u → VR φ A w c u := by
  cases h with
  | imm a v h =>
    cases h with
    | agg cs vs hl h => exact ⟨vs, rfl, hl, fun i c u hc hu => .imm c u (h i c u hc hu)⟩
  | agg cs vs hl h => exact ⟨vs, rfl, hl, h⟩
theorem VR.tup_inv {cs : List AV} {v : Value} (h : VR φ A w (.tup cs) v) :
    ∃ vs : List Value, v = .tuple vs.toArray ∧ vs.length = cs.length ∧ ∀ (i : Nat) c u, cs[i]? = some c → vs[i]? = some u → VR φ A w c u := by
  cases h with
  | imm a v h => cases h
  | tup cs vs hl h => exact ⟨vs, rfl, hl, h⟩
theorem VR.fn_inv {f : FuncId} {cs : List AV} {v : Value} (h : VR φ A w (.fn f cs) v) :
    ∃ vs : List Value, v = .func (.func f) #[] vs.toArray ∧ vs.length = cs.length ∧ ∀ (i : Nat) c u, cs[i]? = some c → vs[i]? = some u → VR φ A w c u := by
  cases h with
  | imm a v h => cases h
  | fn f cs vs hl h => exact ⟨vs, rfl, hl, h⟩

def AV.known : AV → Bool
  | .unk => false
  | _ => true

theorem VR.iptr_inv {cs : List AV} {v : Value} (h : VR φ A w (.iptr cs) v) :
    ∃ (r o : Nat) (g : Nat → Value), v = .pointer (some ⟨r, o, none⟩) ∧ (cs ≠ [] → A r) ∧ (∀ c ∈ cs, c.one = true) ∧
      (∀ j, j < cs.length → w.cell? ⟨r, o + j, none⟩ = some (g j)) ∧ ∀ (j : Nat) c, cs[j]? = some c → RT A w c (g j) := by
  cases h with | imm a v h => cases h with | iptr cs r o g h1 h2 h3 h4 => exact ⟨r, o, g, rfl, h1, h2, h3, h4⟩
theorem VR.lst_inv {es : List AV} {v : Value} (h : VR φ A w (.lst es) v) :
    (es = [] ∧ ∃ a, v = .slice a 0 0) ∨ ∃ (r o cap z : Nat) (g : Nat → Nat → Value), v = .slice (some ⟨r, o, none⟩) es.length cap ∧ es.length ≤ cap ∧ (es ≠ [] → A r) ∧
      (∀ e ∈ es, e.cells.length = z) ∧ (∀ e ∈ es, ∀ c ∈ e.cells, c.one = true) ∧
      (∀ i j, i < es.length → j < z → w.cell? ⟨r, o + i * z + j, none⟩ = some (g i j)) ∧
      ∀ (i j : Nat) e c, es[i]? = some e → e.cells[j]? = some c → RT A w c (g i j) := by
  cases h with | imm a v h => cases h with
    | lnil a => exact .inl ⟨rfl, a, rfl⟩
    | lst es r o cap z g h1 h2 h3 h4 h5 h6 => exact .inr ⟨r, o, cap, z, g, rfl, h1, h2, h3, h4, h5, h6⟩

/-- Cells of a value: each cell of the abstract one describes the cell at its place. -/
theorem VR.cells {a : AV} {v : Value} (h : VR φ A w a v) (hu : a.known = true) :
    v.cells.toList.length = a.cells.length ∧ ∀ (i : Nat) c u, a.cells[i]? = some c → v.cells.toList[i]? = some u → VR φ A w c u := by
  have sing : ∀ (a : AV) (v : Value), a.cells = [a] → v.cells = #[v] → VR φ A w a v → v.cells.toList.length = a.cells.length ∧ ∀ (i : Nat) c u, a.cells[i]? = some c → v.cells.toList[i]? = some u → VR φ A w c u := by
    intro a v ha hv h
    rw [ha, hv]
    refine ⟨rfl, fun i c u hc hu => ?_⟩
    cases i with
    | zero => simp at hc hu; subst hc hu; exact h
    | succ i => simp at hc
  cases a with
  | unk => simp [AV.known] at hu
  | agg cs => obtain ⟨vs, rfl, hl, hh⟩ := h.agg_inv; exact ⟨by simpa [AV.cells, Value.cells] using hl, by simpa [AV.cells, Value.cells] using hh⟩
  | con c =>
    have hv := h.con_inv
    subst hv
    have hone : v.oneCell' = true := by cases h with | imm a v h => cases h with | con v h => exact h
    have hc : v.cells = #[v] := by cases v <;> first | rfl | (simp [Value.oneCell'] at hone)
    exact sing _ _ rfl hc h
  | bool b => have := h.bool_inv; subst this; exact sing _ _ rfl rfl h
  | int k n => have := h.int_inv; subst this; exact sing _ _ rfl rfl h
  | str s => have := h.str_inv; subst this; exact sing _ _ rfl rfl h
  | nils => have := h.nils_inv; subst this; exact sing _ _ rfl rfl h
  | lst es =>
    cases h with | imm a v h => cases h with
    | lnil a => exact sing _ _ rfl rfl (.imm _ _ (.lnil a))
    | lst es r o cap z g h1 h2 h3 h4 h5 h6 => exact sing _ _ rfl rfl (.imm _ _ (.lst es r o cap z g h1 h2 h3 h4 h5 h6))
  | iptr cs => cases h with | imm a v h => cases h with | iptr cs r o g h1 h2 h3 h4 => exact sing _ _ rfl rfl (.imm _ _ (.iptr cs r o g h1 h2 h3 h4))
  | ptr b i j => obtain ⟨r, z, hb, rfl⟩ := h.ptr_inv; exact sing _ _ rfl rfl h
  | sl b i n =>
    rcases h.sl_inv with ⟨rfl, a, rfl⟩ | ⟨r, z, cap, hb, hn, hr, rfl⟩
    · exact sing _ _ rfl rfl h
    · exact sing _ _ rfl rfl h
  | tup vs => obtain ⟨us, rfl, hl, hh⟩ := h.tup_inv; exact sing _ _ rfl rfl h
  | fn f cs => obtain ⟨us, rfl, hl, hh⟩ := h.fn_inv; exact sing _ _ rfl rfl h


def pickV (t : Bool) (x y : AV) : AV :=
  match x, y with
  | .bool p, .bool q => .bool (cond t p q)
  | x, y => match t with | true => x | false => y

theorem ok_move {P : Program} {o : Oper} {ev : Operand → AV} {h : Hp} {nb : Nat} {x : Operand} (ho : o.op = .move x ∨ o.op = .assign x) :
    OpOK P o ev h nb { v := ev x } := by
  refine .value fun φ A w ρ _ hv _ => ⟨ρ x, ?_, hv x⟩
  rcases ho with ho | ho <;> simp [execOp, ho, pure]

theorem ok_pick {P : Program} {o : Oper} {ev : Operand → AV} {h : Hp} {nb : Nat} {c x y : Operand} {t : Bool} (ho : o.op = .pick c x y) (hc : ev c = .bool t) :
    OpOK P o ev h nb { v := pickV t (ev x) (ev y) } := by
  refine .value fun φ A w ρ _ hv _ => ⟨if t then ρ x else ρ y, ?_, ?_⟩
  · have := hv c; rw [hc] at this; simp [execOp, ho, this.bool_inv, asBool, go_sem]
  · have hx := hv x
    have hy := hv y
    generalize ev x = u at hx
    generalize ev y = u' at hy
    cases t
    · unfold pickV
      split
      · have := hx.bool_inv; have h2 := hy.bool_inv; simp only [Bool.false_eq_true, if_false, cond_false]; rw [h2]; exact .imm _ _ (.bool _)
      · simpa using hy
    · unfold pickV
      split
      · have := hx.bool_inv; have h2 := hy.bool_inv; simp only [if_true, cond_true]; rw [this]; exact .imm _ _ (.bool _)
      · simpa using hx

theorem ok_nilCheck {P : Program} {o : Oper} {ev : Operand → AV} {h : Hp} {nb : Nat} {x : Operand} (ho : o.op = .nilCheck x)
    (hx : (∃ b i j, ev x = .ptr b i j) ∨ (∃ cs, ev x = .iptr cs)) : OpOK P o ev h nb { v := ev x } := by
  refine .value fun φ A w ρ _ hv _ => ⟨ρ x, ?_, hv x⟩
  have hp : ∃ ad, ρ x = .pointer (some ad) := by
    rcases hx with ⟨b, i, j, hx⟩ | ⟨cs, hx⟩
    · have := hv x; rw [hx] at this; obtain ⟨r, z, _, he⟩ := this.ptr_inv; exact ⟨_, he⟩
    · have := hv x; rw [hx] at this; obtain ⟨r, o, _, he, _⟩ := this.iptr_inv; exact ⟨_, he⟩
  obtain ⟨ad, he⟩ := hp
  simp [execOp, ho, he, go_sem, pure]

def binI (op : BinOp) (k : IntKind) (a b : Int) : Option AV :=
  match op with
  | .add => some (.int k (k.wrap (a + b)))
  | .sub => some (.int k (k.wrap (a - b)))
  | .mul => some (.int k (k.wrap (a * b)))
  | .eql => some (.bool (a == b))
  | .neq => some (.bool (a != b))
  | .lss => some (.bool (decide (a < b)))
  | .leq => some (.bool (decide (a ≤ b)))
  | .gtr => some (.bool (decide (b < a)))
  | .geq => some (.bool (decide (b ≤ a)))
  | _ => none

theorem eqGuard_int {P : Program} (op : BinOp) (t : TypeId) (x y : Operand) (k k' : IntKind) (a b : Int) (w : World) :
    (eqGuard op t x y (.int k a) (.int k' b)).run P w = .ok () w := by
  unfold eqGuard; split <;> simp_all

theorem ok_binI {P : Program} {o : Oper} {ev : Operand → AV} {h : Hp} {nb : Nat} {op : BinOp} {t t' : TypeId} {x y : Operand} {k : IntKind} {a b : Int} {v : AV}
    (ho : o.op = .binOp op t x y t') (hx : ev x = .int k a) (hy : ev y = .int k b) (hr : binI op k a b = some v) :
    OpOK P o ev h nb { v } := by
  refine .value fun φ A w ρ _ hv _ => ?_
  have h1 := hv x; rw [hx] at h1; have h1 := h1.int_inv
  have h2 := hv y; rw [hy] at h2; have h2 := h2.int_inv
  have run : ∀ r, (binOp op t (.int k a) (.int k b)).run P w = .ok r w → (execOp ρ o).run P w = .ok (.value r) w := by
    intro r hr
    simp only [execOp, ho, h1, h2, Sem.run_bind, eqGuard_int, Result.andThen_ok, hr]
    rfl
  cases op <;> simp only [binI, Option.some.injEq, reduceCtorEq] at hr <;> subst hr <;>
    exact ⟨_, run _ (by simp [binOp, Op.intArith, Op.intCmp]; rfl), .imm _ _ (by first | exact .int _ _ | exact .bool _)⟩

theorem ok_divI {P : Program} {o : Oper} {ev : Operand → AV} {h : Hp} {nb : Nat} {op : BinOp} {t t' : TypeId} {x y : Operand} {k : IntKind} {a b : Int} {v : AV}
    (ho : o.op = .binOp op t x y t') (hx : ev x = .int k a) (hy : ev y = .int k b) (hb : b ≠ 0)
    (hr : (op = .quo ∧ v = .int k (k.wrap (a.tdiv b))) ∨ (op = .rem ∧ v = .int k (a.tmod b))) :
    OpOK P o ev h nb { v } := by
  refine .value fun φ A w ρ _ hv _ => ?_
  have h1 := hv x; rw [hx] at h1; have h1 := h1.int_inv
  have h2 := hv y; rw [hy] at h2; have h2 := h2.int_inv
  have run : ∀ r, (binOp op t (.int k a) (.int k b)).run P w = .ok r w → (execOp ρ o).run P w = .ok (.value r) w := by
    intro r hr
    simp only [execOp, ho, h1, h2, Sem.run_bind, eqGuard_int, Result.andThen_ok, hr]
    rfl
  rcases hr with ⟨rfl, rfl⟩ | ⟨rfl, rfl⟩ <;>
    exact ⟨_, run _ (by simp [binOp, Op.intDiv, hb]), .imm _ _ (.int _ _)⟩

theorem ok_not {P : Program} {o : Oper} {ev : Operand → AV} {h : Hp} {nb : Nat} {t : TypeId} {x : Operand} {b : Bool}
    (ho : o.op = .unOp .not t x) (hx : ev x = .bool b) : OpOK P o ev h nb { v := .bool (!b) } := by
  refine .value fun φ A w ρ _ hv _ => ?_
  have h1 := hv x; rw [hx] at h1; have h1 := h1.bool_inv
  exact ⟨.bool (!b), by simp only [execOp, ho, h1, Op.unary, Sem.run_bind]; rfl, .imm _ _ (.bool _)⟩

theorem ok_neg {P : Program} {o : Oper} {ev : Operand → AV} {h : Hp} {nb : Nat} {t : TypeId} {x : Operand} {k : IntKind} {n : Int}
    (ho : o.op = .unOp .neg t x) (hx : ev x = .int k n) : OpOK P o ev h nb { v := .int k (k.wrap (0 - n)) } := by
  refine .value fun φ A w ρ _ hv _ => ?_
  have h1 := hv x; rw [hx] at h1; have h1 := h1.int_inv
  exact ⟨.int k (k.wrap (0 - n)), by simp only [execOp, ho, h1, Op.unary, Op.intArith, Sem.run_bind]; rfl, .imm _ _ (.int _ _)⟩

theorem ok_extract {P : Program} {o : Oper} {ev : Operand → AV} {h : Hp} {nb : Nat} {x : Operand} {i : Nat} {vs : List AV} {v : AV}
    (ho : o.op = .extract x i) (hx : ev x = .tup vs) (hi : vs[i]? = some v) : OpOK P o ev h nb { v } := by
  refine .value fun φ A w ρ _ hv _ => ?_
  have h1 := hv x; rw [hx] at h1
  obtain ⟨us, he, hl, hh⟩ := h1.tup_inv
  have hlt : i < us.length := by have := (List.getElem?_eq_some_iff.1 hi).1; omega
  exact ⟨us[i], by simp [execOp, ho, he, Instr.extract, hlt, go_sem, pure, Sem.run], hh i v us[i] hi (by simp [hlt])⟩

end Go.AX
