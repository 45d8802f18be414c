import Derived.Test.YtnpmcikbnnlmkaaAxL
/-! Equality of structs, parts, conversions, function values, smaller and greater, slices of what came in. -/
namespace Go.AX
variable {φ : Phi} {A : Nat → Prop} {w : World} {P : Program}

def partA (P : Program) (t : TypeId) (cs : List AV) (off : Nat) : Option AV :=
  match tsz P t with
  | some (s, true) => match Nat.ble (off + s) cs.length with
    | true => some (.agg ((cs.drop off).take s))
    | false => none
  | some (_, false) => cs[off]?
  | none => none

theorem run_part {t : TypeId} {cs : List AV} {us : Array Value} {off : Nat} {v : AV} (hc : CR φ A w cs us.toList) (h : partA P t cs off = some v) :
    ∃ u, (part t us off).run P w = .ok u w ∧ VR φ A w v u := by
  unfold partA at h
  split at h
  · rename_i s hs
    split at h
    · rename_i hle
      have hle := Nat.le_of_ble_eq_true hle
      cases h
      unfold tsz at hs
      split at hs
      case h_2 => cases hs
      rename_i i d hi hd
      simp only [Option.some.injEq, Prod.mk.injEq] at hs
      obtain ⟨rfl, hag⟩ := hs
      have hus : us.size = cs.length := by have := hc.1; simpa using this
      refine ⟨.agg (us.extract off (off + i.size)), ?_, .agg_mk ⟨by simp; omega, fun k c u hk hu => ?_⟩⟩
      · unfold part isAgg
        cases d <;> simp [aggD] at hag <;> simp [run_underlying hd, sizeOf, typeInfo, hi]
      · rw [List.getElem?_take] at hk
        split at hk
        · rename_i hlt
          rw [List.getElem?_drop] at hk
          have hu' : us.toList[off + k]? = some u := by
            simp only [Array.toList_extract, List.extract_eq_take_drop] at hu
            rw [List.getElem?_take] at hu
            split at hu
            · rw [List.getElem?_drop] at hu; exact hu
            · cases hu
          exact hc.2 _ c u hk hu'
        · cases hk
    · cases h
  · rename_i s hs
    unfold tsz at hs
    split at hs
    case h_2 => cases hs
    rename_i i d hi hd
    simp only [Option.some.injEq, Prod.mk.injEq] at hs
    obtain ⟨_, hag⟩ := hs
    have hlt := (List.getElem?_eq_some_iff.1 h).1
    have hus : us.size = cs.length := by have := hc.1; simpa using this
    have hu : us[off]? = some us[off] := Array.getElem?_eq_getElem (by omega)
    refine ⟨us[off], ?_, hc.2 off v _ h (by rw [Array.getElem?_toList]; exact hu)⟩
    unfold part isAgg
    cases d <;> simp [aggD] at hag <;> simp [run_underlying hd, hu]
  · cases h

theorem ok_field {o : Oper} {ev : Operand → AV} {h : Hp} {nb : Nat} {t : TypeId} {x : Operand} {f : Nat} {cs : List AV} {fs : Array Field} {fd : Field} {v : AV}
    (ho : o.op = .field t x f) (hx : ev x = .agg cs) (hu : P.underlying t = some (.struct fs)) (hf : fs[f]? = some fd) (hp : partA P fd.type cs fd.offset = some v) : OpOK P o ev h nb { v } := by
  refine .value fun φ A w ρ _ hv _ => ?_
  have h1 := hv x; rw [hx] at h1
  obtain ⟨us, he, hl, hh⟩ := h1.agg_inv
  obtain ⟨u, hr, hvr⟩ := run_part (P := P) (us := us.toArray) (φ := φ) (A := A) (w := w) ⟨by simpa using hl, by simpa using hh⟩ hp
  exact ⟨u, by simp [execOp, ho, Instr.field, run_underlying hu, hf, he, asAgg, hr], hvr⟩

mutual
def eqA (P : Program) : Nat → TypeId → AV → AV → Option Bool
  | 0, _, _, _ => none
  | d + 1, t, x, y =>
    match P.underlying t, x, y with
    | some .bool, .bool a, .bool b => some (a == b)
    | some (.int _), .int k a, .int k' b => if k = k' then some (a == b) else none
    | some .string, .str a, .str b => some (a == b)
    | some (.struct fs), .agg xs, .agg ys => match P.stoodInHeld t with
      | false => eqF P d xs ys fs.toList
      | true => none
    | _, _, _ => none
def eqF (P : Program) : Nat → List AV → List AV → List Field → Option Bool
  | 0, _, _, _ => none
  | _ + 1, _, _, [] => some true
  | d + 1, xs, ys, f :: fs =>
    match decide (f.name = "_"), partA P f.type xs f.offset, partA P f.type ys f.offset with
    | false, some a, some b => match eqA P d f.type a b, eqF P d xs ys fs with
      | some p, some q => some (p && q)
      | _, _ => none
    | _, _, _ => none
end

theorem eq_sound : ∀ (n : Nat),
    (∀ (t : TypeId) (x y : AV) (u v : Value) (b : Bool), eqA P n t x y = some b → VR φ A w x u → VR φ A w y v → ∀ d, n ≤ d → (Op.equalIn d t u v).run P w = .ok b w) ∧
    (∀ (xs ys : List AV) (us vs : Array Value) (fs : List Field) (b : Bool), eqF P n xs ys fs = some b → CR φ A w xs us.toList → CR φ A w ys vs.toList → ∀ d, n ≤ d → (Op.eqFields d us vs fs).run P w = .ok b w) := by
  intro n
  induction n with
  | zero => exact ⟨fun t x y u v b h => by simp [eqA] at h, fun xs ys us vs fs b h => by simp [eqF] at h⟩
  | succ n ih =>
    refine ⟨fun t x y u v b h hx hy d hd => ?_, fun xs ys us vs fs b h hx hy d hd => ?_⟩
    · obtain ⟨d, rfl⟩ : ∃ d', d = d' + 1 := ⟨d - 1, by omega⟩
      simp only [eqA] at h
      split at h
      · rename_i a b' hu; cases h; rw [hx.bool_inv, hy.bool_inv]; exact run_equalIn_bool' w d t _ _ hu
      · rename_i k0 k a k' b' hu
        split at h
        · rename_i hk; subst hk; cases h; rw [hx.int_inv, hy.int_inv]; exact run_equalIn_int w d t k k0 _ _ hu
        · cases h
      · rename_i a b' hu; cases h; rw [hx.str_inv, hy.str_inv, run_equalIn_string w d t _ _ hu, beq_toListBytes]
      · rename_i fs xs ys hu
        split at h
        · rename_i hp
          obtain ⟨us, rfl, hl, hh⟩ := hx.agg_inv
          obtain ⟨vs, rfl, hl', hh'⟩ := hy.agg_inv
          have hfo : P.fieldsOf t = fs := by unfold Program.fieldsOf; simp [hu]
          rw [run_equalIn_struct w d t _ _ (by rw [hfo]; exact hu) hp, hfo]
          exact ih.2 xs ys us.toArray vs.toArray fs.toList b h ⟨by simpa using hl, by simpa using hh⟩ ⟨by simpa using hl', by simpa using hh'⟩ d (by omega)
        · cases h
      · cases h
    · cases fs with
      | nil => simp [eqF] at h; subst h; simp [Op.eqFields]
      | cons f fs =>
        simp only [eqF] at h
        split at h
        · rename_i a b' hname ha hb
          split at h
          · rename_i p q hp hq
            cases h
            have hname : ¬ f.name = "_" := of_decide_eq_false hname
            obtain ⟨u, hru, hvu⟩ := run_part (P := P) hx ha
            obtain ⟨v, hrv, hvv⟩ := run_part (P := P) hy hb
            have h1 := ih.1 f.type a b' u v p hp hvu hvv d (by omega)
            have h2 := ih.2 xs ys us vs fs q hq hx hy d (by omega)
            simp only [Op.eqFields, ne_eq, hname, not_false_eq_true, if_true, Sem.run_bind, hru, hrv, Result.andThen_ok, h1]
            cases p
            · simp
            · simp [h2]
          · cases h
        · cases h

theorem ok_eqStruct {o : Oper} {ev : Operand → AV} {h : Hp} {nb : Nat} {t t' : TypeId} {x y : Operand} {xs ys : List AV} {b v : Bool} {op : BinOp} {n : Nat}
    (ho : o.op = .binOp op t x y t') (hx : ev x = .agg xs) (hy : ev y = .agg ys) (he : eqA P n t (.agg xs) (.agg ys) = some b) (hn : n ≤ 10000) (hg : P.eqGuardType P.depth t = false)
    (hop : (op = .eql ∧ v = b) ∨ (op = .neq ∧ v = !b)) : OpOK P o ev h nb { v := .bool v } := by
  refine .value fun φ A w ρ _ hv _ => ⟨.bool v, ?_, .imm _ _ (.bool _)⟩
  have h1 := hv x; rw [hx] at h1
  have h2 := hv y; rw [hy] at h2
  have hr := (eq_sound (P := P) (φ := φ) (A := A) (w := w) n).1 t _ _ _ _ b he h1 h2 10000 hn
  obtain ⟨us, e1, _, _⟩ := h1.agg_inv
  obtain ⟨vs, e2, _, _⟩ := h2.agg_inv
  rw [e1, e2] at hr
  have hgd := run_eqGuard_agg (P := P) w op t x y us.toArray vs.toArray hg
  rcases hop with ⟨rfl, rfl⟩ | ⟨rfl, rfl⟩
  · simp only [execOp, ho, e1, e2, Sem.run_bind, hgd, Result.andThen_ok, run_eql_struct, hr]; rfl
  · simp only [execOp, ho, e1, e2, Sem.run_bind, hgd, Result.andThen_ok, run_neq_struct, hr]; rfl

theorem eqGuard_bool (op : BinOp) (t : TypeId) (x y : Operand) (a b : Bool) (w : World) :
    (eqGuard op t x y (.bool a) (.bool b)).run P w = .ok () w := by
  unfold eqGuard; split <;> simp_all
theorem eqGuard_string (op : BinOp) (t : TypeId) (x y : Operand) (a b : ByteArray) (w : World) :
    (eqGuard op t x y (.string a) (.string b)).run P w = .ok () w := by
  unfold eqGuard; split <;> simp_all

theorem ok_eqBool {o : Oper} {ev : Operand → AV} {h : Hp} {nb : Nat} {t t' : TypeId} {x y : Operand} {a b v : Bool} {op : BinOp}
    (ho : o.op = .binOp op t x y t') (hx : ev x = .bool a) (hy : ev y = .bool b) (hu : P.underlying t = some .bool)
    (hop : (op = .eql ∧ v = (a == b)) ∨ (op = .neq ∧ v = !(a == b))) : OpOK P o ev h nb { v := .bool v } := by
  refine .value fun φ A w ρ _ hv _ => ⟨.bool v, ?_, .imm _ _ (.bool _)⟩
  have h1 := hv x; rw [hx] at h1; have h1 := h1.bool_inv
  have h2 := hv y; rw [hy] at h2; have h2 := h2.bool_inv
  have hgd := eqGuard_bool (P := P) op t x y a b w
  have hr := run_equalIn_bool' (P := P) w 9999 t a b hu
  rcases hop with ⟨rfl, rfl⟩ | ⟨rfl, rfl⟩ <;>
    simp only [execOp, ho, h1, h2, Sem.run_bind, hgd, Result.andThen_ok, binOp, Op.equal, Op.maxDepth, hr] <;> rfl

theorem ok_str {o : Oper} {ev : Operand → AV} {h : Hp} {nb : Nat} {t t' : TypeId} {x y : Operand} {a b : ByteArray} {v : AV} {op : BinOp}
    (ho : o.op = .binOp op t x y t') (hx : ev x = .str a) (hy : ev y = .str b)
    (hop : (op = .eql ∧ v = .bool (a.toList == b.toList)) ∨ (op = .neq ∧ v = .bool (!(a.toList == b.toList))) ∨ (op = .lss ∧ v = .bool (Op.bytesLess a.toList b.toList))
      ∨ (op = .add ∧ a.size + b.size ≤ 9223372036854775807 ∧ v = .str (a ++ b))) : OpOK P o ev h nb { v } := by
  have key : ∀ (φ : Phi) (A : Nat → Prop) (w : World) (ρ : Operand → Value), ρ x = .string a → ρ y = .string b → ∀ r, (Op.stringOp op a b).run P w = .ok r w → (execOp ρ o).run P w = .ok (.value r) w := by
    intro φ A w ρ h1 h2 r hr
    have hgd := eqGuard_string (P := P) op t x y a b w
    cases op <;> simp only [execOp, ho, h1, h2, Sem.run_bind, hgd, Result.andThen_ok, binOp, hr] <;> rfl
  refine .value fun φ A w ρ _ hv _ => ?_
  have h1 := hv x; rw [hx] at h1; have h1 := h1.str_inv
  have h2 := hv y; rw [hy] at h2; have h2 := h2.str_inv
  rcases hop with ⟨rfl, rfl⟩ | ⟨rfl, rfl⟩ | ⟨rfl, rfl⟩ | ⟨rfl, hle, rfl⟩
  · exact ⟨_, key φ A w ρ h1 h2 (.bool (a.toList == b.toList)) (by simp [Op.stringOp]), .imm _ _ (.bool _)⟩
  · exact ⟨_, key φ A w ρ h1 h2 (.bool (!(a.toList == b.toList))) (by simp [Op.stringOp]), .imm _ _ (.bool _)⟩
  · exact ⟨_, key φ A w ρ h1 h2 (.bool (Op.bytesLess a.toList b.toList)) (by simp [Op.stringOp]), .imm _ _ (.bool _)⟩
  · refine ⟨_, key φ A w ρ h1 h2 (.string (a ++ b)) ?_, .imm _ _ (.str _)⟩
    have : ¬ ((a.size + b.size : Nat) : Int) > IntKind.i64.max := by simp [IntKind.max, IntKind.signed, IntKind.bits]; omega
    simp only [Op.stringOp, this, if_false]; rfl

theorem ok_convI {o : Oper} {ev : Operand → AV} {h : Hp} {nb : Nat} {s t : TypeId} {x : Operand} {k k' : IntKind} {n : Int}
    (ho : o.op = .convert s t x) (hx : ev x = .int k n) (hs : ∃ d, P.underlying s = some d) (ht : P.underlying t = some (.int k')) : OpOK P o ev h nb { v := .int k' (k'.wrap n) } := by
  refine .value fun φ A w ρ _ hv _ => ⟨.int k' (k'.wrap n), ?_, .imm _ _ (.int _ _)⟩
  have h1 := hv x; rw [hx] at h1; have h1 := h1.int_inv
  obtain ⟨d, hd⟩ := hs
  simp [execOp, ho, h1, convert, run_underlying hd, run_underlying ht, Conv.intToInt]

theorem ok_makeFunc {o : Oper} {ev : Operand → AV} {h : Hp} {nb : Nat} {f : FuncId} {caps : Array Operand}
    (ho : o.op = .makeFunc (.func f) #[] caps) : OpOK P o ev h nb { v := .fn f (caps.toList.map ev) } := by
  refine .value fun φ A w ρ _ hv _ => ⟨.func (.func f) #[] (caps.map ρ), ?_, ?_⟩
  · simp [execOp, ho, Instr.makeFunc]
  · have := VR.fn (φ := φ) (A := A) (w := w) f (caps.toList.map ev) (caps.toList.map ρ) (by simp) (fun i c u hc hu => by
      simp only [List.getElem?_map, Option.map_eq_some_iff] at hc hu
      obtain ⟨p, hp, rfl⟩ := hc
      obtain ⟨q, hq, rfl⟩ := hu
      rw [hp] at hq; cases hq
      exact hv p)
    have e : (caps.toList.map ρ).toArray = caps.map ρ := by apply Array.ext'; simp
    rw [e] at this; exact this

theorem ok_minmax {o : Oper} {ev : Operand → AV} {h : Hp} {nb : Nat} {x y : Operand} {ts : Array TypeId} {k : IntKind} {a b c : Int} {bi : Builtin}
    (ho : o.op = .call { callee := .builtin bi, args := #[x, y], argTypes := ts }) (hx : ev x = .int k a) (hy : ev y = .int k b)
    (hop : (bi = .min ∧ c = if b < a then b else a) ∨ (bi = .max ∧ c = if a < b then b else a)) : OpOK P o ev h nb { v := .int k c } := by
  refine .value fun φ A w ρ _ hv _ => ⟨.int k c, ?_, .imm _ _ (.int _ _)⟩
  have h1 := hv x; rw [hx] at h1; have h1 := h1.int_inv
  have h2 := hv y; rw [hy] at h2; have h2 := h2.int_inv
  rcases hop with ⟨rfl, rfl⟩ | ⟨rfl, rfl⟩
  · simp [execOp, ho, h1, h2, resolve, invoke, builtin, Builtin.min_, Builtin.min2]
  · simp [execOp, ho, h1, h2, resolve, invoke, builtin, Builtin.max_, Builtin.max2]

end Go.AX
