import Derived.Test.YtnpmcikbnnlmkaaAxS
/-! The evaluator of one operation, and that it is right. -/
namespace Go.AX
variable {P : Program}

inductive Hint where
  | no
  | el (e : AV)
  | call (σ fz : List Nat) (outs : List Blk) (res : AV)

def SrcFitB (h : Hp) (z : Nat) (x : AV) : Prop := SrcFit h z x

def unB (P : Program) (t : TypeId) : Bool := match P.underlying t with | some .bool => true | _ => false
def unI (P : Program) (t : TypeId) : Option IntKind := match P.underlying t with | some (.int k) => some k | _ => none
def unS (P : Program) (t : TypeId) : Bool := match P.underlying t with | some .string => true | _ => false
def unL (P : Program) (t : TypeId) : Bool := match P.underlying t with | some (.slice _) => true | _ => false
def unA (P : Program) (t : TypeId) : Option Nat := match P.underlying t with | some (.array n _) => some n | _ => none
def unK (P : Program) (t : TypeId) : Bool := match P.underlying t with | some _ => true | _ => false

def vOp (v : AV) : Option (OpR × Prop) := some ({ v }, True)

def aBin (P : Program) (op : BinOp) (t : TypeId) (x y : AV) : Option (OpR × Prop) :=
  match x, y with
  | .int k a, .int k' b =>
    match decide (k = k') with
    | true => match op with
      | .quo => some ({ v := .int k (k.wrap (a.tdiv b)) }, b ≠ 0)
      | .rem => some ({ v := .int k (a.tmod b) }, b ≠ 0)
      | op => match binI op k a b with | some v => vOp v | none => none
    | false => none
  | .bool a, .bool b => match unB P t, op with
    | true, .eql => vOp (.bool (a == b))
    | true, .neq => vOp (.bool (!(a == b)))
    | _, _ => none
  | .str a, .str b => match op with
    | .eql => vOp (.bool (a.toList == b.toList))
    | .neq => vOp (.bool (!(a.toList == b.toList)))
    | .lss => vOp (.bool (Op.bytesLess a.toList b.toList))
    | .add => some ({ v := .str (a ++ b) }, a.size + b.size ≤ 9223372036854775807)
    | _ => none
  | .agg xs, .agg ys => match eqA P 60 t (.agg xs) (.agg ys), P.eqGuardType P.depth t, op with
    | some b, false, .eql => vOp (.bool b)
    | some b, false, .neq => vOp (.bool (!b))
    | _, _, _ => none
  | .nils, .nils => match unL P t, op with
    | true, .eql => vOp (.bool true)
    | true, .neq => vOp (.bool (!true))
    | _, _ => none
  | .lst es, .nils => match unL P t, op with
    | true, .eql => some ({ v := .bool false }, es ≠ [])
    | true, .neq => some ({ v := .bool (!false) }, es ≠ [])
    | _, _ => none
  | .sl _ _ n, .nils => match unL P t, op with
    | true, .eql => some ({ v := .bool false }, n ≠ 0)
    | true, .neq => some ({ v := .bool (!false) }, n ≠ 0)
    | _, _ => none
  | _, _ => none

theorem OpR.fits_value (v : AV) (h : Hp) : OpR.fits { v } h := ⟨fun b blk hm => by simp at hm, fun b hm => by simp at hm⟩

theorem aBin_sound {o : Oper} {ev : Operand → AV} {h : Hp} {nb : Nat} {op : BinOp} {t t' : TypeId} {x y : Operand} {R : OpR} {p : Prop}
    (ho : o.op = .binOp op t x y t') (hr : aBin P op t (ev x) (ev y) = some (R, p)) (hp : p) : OpOK P o ev h nb R ∧ R.fits h ∧ R.dead = [] := by
  generalize hx : ev x = u at hr
  generalize hy : ev y = v at hr
  unfold aBin at hr
  split at hr
  · rename_i k a k' b
    split at hr
    · rename_i hk
      have hk := of_decide_eq_true hk
      subst hk
      split at hr
      · cases hr; exact ⟨ok_divI ho hx hy hp (.inl ⟨rfl, rfl⟩), OpR.fits_value _ _, rfl⟩
      · cases hr; exact ⟨ok_divI ho hx hy hp (.inr ⟨rfl, rfl⟩), OpR.fits_value _ _, rfl⟩
      · split at hr
        · rename_i w hw; cases hr; exact ⟨ok_binI ho hx hy hw, OpR.fits_value _ _, rfl⟩
        · cases hr
    · cases hr
  · split at hr
    · rename_i hu; cases hr
      refine ⟨ok_eqBool ho hx hy ?_ (.inl ⟨rfl, rfl⟩), OpR.fits_value _ _, rfl⟩
      unfold unB at hu; split at hu
      · assumption
      · cases hu
    · rename_i hu; cases hr
      refine ⟨ok_eqBool ho hx hy ?_ (.inr ⟨rfl, rfl⟩), OpR.fits_value _ _, rfl⟩
      unfold unB at hu; split at hu
      · assumption
      · cases hu
    · cases hr
  · split at hr
    · cases hr; exact ⟨ok_str ho hx hy (.inl ⟨rfl, rfl⟩), OpR.fits_value _ _, rfl⟩
    · cases hr; exact ⟨ok_str ho hx hy (.inr (.inl ⟨rfl, rfl⟩)), OpR.fits_value _ _, rfl⟩
    · cases hr; exact ⟨ok_str ho hx hy (.inr (.inr (.inl ⟨rfl, rfl⟩))), OpR.fits_value _ _, rfl⟩
    · cases hr; exact ⟨ok_str ho hx hy (.inr (.inr (.inr ⟨rfl, hp, rfl⟩))), OpR.fits_value _ _, rfl⟩
    · cases hr
  · split at hr
    · rename_i hb hg; cases hr; exact ⟨ok_eqStruct ho hx hy hb (by omega) hg (.inl ⟨rfl, rfl⟩), OpR.fits_value _ _, rfl⟩
    · rename_i hb hg; cases hr; exact ⟨ok_eqStruct ho hx hy hb (by omega) hg (.inr ⟨rfl, rfl⟩), OpR.fits_value _ _, rfl⟩
    · cases hr
  all_goals
    have hsl : unL P t = true → ∃ e, P.underlying t = some (.slice e) := by
      intro hu; unfold unL at hu; split at hu
      · rename_i e he; exact ⟨e, he⟩
      · cases hu
  · split at hr
    · rename_i hu; cases hr; obtain ⟨e, he⟩ := hsl hu; exact ⟨ok_eqNil ho he hy (.inl ⟨hx, rfl⟩) (.inl ⟨rfl, rfl⟩), OpR.fits_value _ _, rfl⟩
    · rename_i hu; cases hr; obtain ⟨e, he⟩ := hsl hu; exact ⟨ok_eqNil ho he hy (.inl ⟨hx, rfl⟩) (.inr ⟨rfl, rfl⟩), OpR.fits_value _ _, rfl⟩
    · cases hr
  · split at hr
    · rename_i hu; cases hr; obtain ⟨e, he⟩ := hsl hu; exact ⟨ok_eqNil ho he hy (.inr (.inl ⟨rfl, _, hx, hp⟩)) (.inl ⟨rfl, rfl⟩), OpR.fits_value _ _, rfl⟩
    · rename_i hu; cases hr; obtain ⟨e, he⟩ := hsl hu; exact ⟨ok_eqNil ho he hy (.inr (.inl ⟨rfl, _, hx, hp⟩)) (.inr ⟨rfl, rfl⟩), OpR.fits_value _ _, rfl⟩
    · cases hr
  · split at hr
    · rename_i hu; cases hr; obtain ⟨e, he⟩ := hsl hu; exact ⟨ok_eqNil ho he hy (.inr (.inr ⟨rfl, _, _, _, hx, hp⟩)) (.inl ⟨rfl, rfl⟩), OpR.fits_value _ _, rfl⟩
    · rename_i hu; cases hr; obtain ⟨e, he⟩ := hsl hu; exact ⟨ok_eqNil ho he hy (.inr (.inr ⟨rfl, _, _, _, hx, hp⟩)) (.inr ⟨rfl, rfl⟩), OpR.fits_value _ _, rfl⟩
    · cases hr
  · cases hr

/-- Loads. -/
def aLoad (P : Program) (t : TypeId) (x : AV) (hp : List (Option Blk)) (hint : Hint) : Option (OpR × Prop) :=
  match x, tsz P t with
  | .ptr b i j, some (s, ag) =>
    match nth hp b with
    | some blk =>
      match hint with
      | .el e => match Nat.beq ((e.cells.drop j).take s).length s, mkV ag ((e.cells.drop j).take s) with
        | true, some v => some ({ v }, blk.es[i]? = some e)
        | _, _ => none
      | _ => match blk.es[i]? with
        | some e => match Nat.beq ((e.cells.drop j).take s).length s, mkV ag ((e.cells.drop j).take s) with
          | true, some v => vOp v
          | _, _ => none
        | none => none
    | none => none
  | .iptr cs, some (s, ag) => match Nat.beq (cs.take s).length s, mkV ag (cs.take s) with
    | true, some v => vOp v
    | _, _ => none
  | _, _ => none

theorem aLoad_sound {o : Oper} {ev : Operand → AV} {hp : List (Option Blk)} {nb : Nat} {t : TypeId} {x : Operand} {hint : Hint} {R : OpR} {p : Prop}
    (ho : o.op = .load t x) (hr : aLoad P t (ev x) hp hint = some (R, p)) (hpp : p) : OpOK P o ev (nth hp) nb R ∧ R.fits (nth hp) ∧ R.dead = [] := by
  generalize hx : ev x = u at hr
  unfold aLoad at hr
  split at hr
  · rename_i b i j s ag ht
    split at hr
    case h_2 => cases hr
    rename_i blk hb
    split at hr
    · rename_i e
      split at hr
      · rename_i v hl hm; cases hr; exact ⟨ok_load_ptr ho hx hb hpp ht (Nat.eq_of_beq_eq_true hl) hm, OpR.fits_value _ _, rfl⟩
      · cases hr
    · split at hr
      case h_2 => cases hr
      rename_i e he
      split at hr
      · rename_i v hl hm; cases hr; exact ⟨ok_load_ptr ho hx hb he ht (Nat.eq_of_beq_eq_true hl) hm, OpR.fits_value _ _, rfl⟩
      · cases hr
  · rename_i cs s ag ht
    split at hr
    · rename_i v hl hm; cases hr; exact ⟨ok_load_iptr ho hx ht (Nat.eq_of_beq_eq_true hl) hm, OpR.fits_value _ _, rfl⟩
    · cases hr
  · cases hr

/-- Stores. -/
def aStore (P : Program) (t : TypeId) (x y : AV) (hp : List (Option Blk)) (hint : Hint) : Option (OpR × Prop) :=
  match x, tsz P t with
  | .ptr b i j, some (s, _) =>
    match nth hp b, y.known && allOne y.cells && Nat.beq y.cells.length s with
    | some blk, true =>
      match blk.wr, Nat.beq j 0 && Nat.beq s blk.z with
      | true, true => some ({ v := .unk, chg := [(b, { blk with es := blk.es.set i y, flat := blk.flat && norefL y.cells })] }, i < blk.es.length)
      | true, false =>
        match hint with
        | .el (.agg cs) => match Nat.ble (j + s) blk.z && Nat.beq cs.length blk.z with
          | true => some ({ v := .unk, chg := [(b, { blk with es := blk.es.set i (.agg (cs.take j ++ y.cells ++ cs.drop (j + s))), flat := blk.flat && norefL y.cells })] }, blk.es[i]? = some (.agg cs))
          | false => none
        | _ => match blk.es[i]? with
          | some (.agg cs) => match Nat.ble (j + s) blk.z && Nat.beq cs.length blk.z with
            | true => some ({ v := .unk, chg := [(b, { blk with es := blk.es.set i (.agg (cs.take j ++ y.cells ++ cs.drop (j + s))), flat := blk.flat && norefL y.cells })] }, True)
            | false => none
          | _ => none
      | false, _ => none
    | _, _ => none
  | _, _ => none

theorem fits_chg {hp : List (Option Blk)} {b : Nat} {blk blk' : Blk} (hb : nth hp b = some blk) (hw : blk.wr = true) : OpR.fits { v := .unk, chg := [(b, blk')] } (nth hp) :=
  ⟨fun b' blk'' hm => by simp at hm; obtain ⟨rfl, rfl⟩ := hm; exact ⟨blk, hb, hw⟩, fun b hm => by simp at hm⟩

theorem splice_cells (cs ys : List AV) (j s k : Nat) (c : AV) (hs : ys.length = s) (hj : j + s ≤ cs.length) (h : (cs.take j ++ ys ++ cs.drop (j + s))[k]? = some c) :
    (j ≤ k ∧ k < j + s ∧ ys[k - j]? = some c) ∨ ((k < j ∨ j + s ≤ k) ∧ cs[k]? = some c) := by
  simp only [List.append_assoc, List.getElem?_append, List.length_take, List.getElem?_take, List.getElem?_drop] at h
  have e1 : min j cs.length = j := by omega
  rw [e1] at h
  by_cases h1 : k < j
  · rw [if_pos h1, if_pos h1] at h; exact .inr ⟨.inl h1, h⟩
  · rw [if_neg h1] at h
    by_cases h2 : k - j < ys.length
    · rw [if_pos h2] at h; exact .inl ⟨by omega, by omega, h⟩
    · rw [if_neg h2] at h
      rw [show j + s + (k - j - ys.length) = k by omega] at h
      exact .inr ⟨.inr (by omega), h⟩

theorem aStore_sound {o : Oper} {ev : Operand → AV} {hp : List (Option Blk)} {nb : Nat} {t : TypeId} {x y : Operand} {hint : Hint} {R : OpR} {p : Prop}
    (ho : o.op = .store t x y) (hr : aStore P t (ev x) (ev y) hp hint = some (R, p)) (hpp : p) : OpOK P o ev (nth hp) nb R ∧ R.fits (nth hp) ∧ R.dead = [] := by
  generalize hx : ev x = u at hr
  unfold aStore at hr
  split at hr
  case h_2 => cases hr
  rename_i b i j s ag ht
  split at hr
  case h_2 => cases hr
  rename_i blk hb hc
  simp only [Bool.and_eq_true] at hc
  obtain ⟨⟨hk, h1⟩, hl⟩ := hc
  have hl := Nat.eq_of_beq_eq_true hl
  have part : ∀ cs : List AV, blk.wr = true → (Nat.ble (j + s) blk.z && Nat.beq cs.length blk.z) = true → blk.es[i]? = some (.agg cs) →
      OpOK P o ev (nth hp) nb { v := .unk, chg := [(b, { blk with es := blk.es.set i (.agg (cs.take j ++ (ev y).cells ++ cs.drop (j + s))), flat := blk.flat && norefL (ev y).cells })] } := by
    intro cs hw hc he
    simp only [Bool.and_eq_true] at hc
    have hjz := Nat.le_of_ble_eq_true hc.1
    have hcz := Nat.eq_of_beq_eq_true hc.2
    refine ok_store ho hx hb hw ht hk hl h1 (List.getElem?_eq_some_iff.1 he).1 hjz ?_ fun k c hkc => ?_
    · simp [AV.cells] at hl ⊢; omega
    · rcases splice_cells cs (ev y).cells j s k c hl (by omega) hkc with h | ⟨h, h2⟩
      · exact .inl h
      · exact .inr ⟨h, _, he, h2⟩
  split at hr
  · rename_i hw hj
    cases hr
    simp only [Bool.and_eq_true] at hj
    have hj0 := Nat.eq_of_beq_eq_true hj.1
    have hsz := Nat.eq_of_beq_eq_true hj.2
    subst hj0
    refine ⟨ok_store ho hx hb hw ht hk hl h1 hpp (by omega) (by omega) fun k c hkc => .inl ⟨Nat.zero_le _, ?_, by simpa using hkc⟩, fits_chg hb hw, rfl⟩
    have := (List.getElem?_eq_some_iff.1 hkc).1; omega
  · rename_i hw hj
    split at hr
    · rename_i cs
      split at hr
      · rename_i hc; cases hr; exact ⟨part cs hw hc hpp, fits_chg hb hw, rfl⟩
      · cases hr
    · split at hr
      · rename_i cs he
        split at hr
        · rename_i hc; cases hr; exact ⟨part cs hw hc he, fits_chg hb hw, rfl⟩
        · cases hr
      · cases hr
  · cases hr

end Go.AX
