import Derived.Test.YtnpmcikbnnlmkaaAxF
/-! Building values and slices; stores. -/
namespace Go.AX
variable {φ : Phi} {A : Nat → Prop} {w : World} {P : Program}

def builtA (P : Program) (t : TypeId) (parts : List (Nat × AV)) : Option AV :=
  match P.info? t, P.underlying t with
  | some it, some (.array _ e) =>
    match it.zero, P.info? e with
    | some z, some ie => match (absV z).known with
      | true => (fillA (fun i => some (i * ie.size, ie.size)) (absV z).cells parts).map .agg
      | false => none
    | _, _ => none
  | some it, some (.struct fields) =>
    match it.zero, fields.toList.mapM (fun f => (P.info? f.type).map fun i => (f.offset, i.size)) with
    | some z, some places => match (absV z).known with
      | true => (fillA (places.toArray[·]?) (absV z).cells parts).map .agg
      | false => none
    | _, _ => none
  | _, _ => none

theorem VR.agg_mk {cs : List AV} {us : Array Value} (h : CR φ A w cs us.toList) : VR φ A w (.agg cs) (.agg us) := by
  have := VR.agg (φ := φ) (A := A) (w := w) cs us.toList h.1 h.2
  simpa using this

theorem ok_build {o : Oper} {ev : Operand → AV} {h : Hp} {nb : Nat} {t : TypeId} {parts : Array (Nat × Operand)} {v : AV}
    (ho : o.op = .build t parts) (hb : builtA P t (parts.toList.map fun p => (p.1, ev p.2)) = some v) : OpOK P o ev h nb { v } := by
  refine .value fun φ A w ρ _ hv _ => ?_
  have hm : (parts.toList.map fun p => (p.1, ev p.2)).map (·.1) = (parts.toList.map fun p => (p.1, ρ p.2)).map (·.1) := by simp
  have hvv : ∀ (k : Nat) x y, (parts.toList.map fun p => (p.1, ev p.2))[k]? = some x → (parts.toList.map fun p => (p.1, ρ p.2))[k]? = some y → VR φ A w x.2 y.2 := by
    intro k x y hx hy
    simp only [List.getElem?_map, Option.map_eq_some_iff] at hx hy
    obtain ⟨p, hp, rfl⟩ := hx
    obtain ⟨q, hq, rfl⟩ := hy
    rw [hp] at hq; cases hq
    exact hv p.2
  have fin : ∀ us : Array Value, P.built t (parts.toList.map fun p => (p.1, ρ p.2)) = some us → VR φ A w v (.agg us) → ∃ v', (execOp ρ o).run P w = .ok (.value v') w ∧ VR φ A w v v' := by
    intro us hus hvr
    refine ⟨.agg us, ?_, hvr⟩
    have hl : (parts.map fun p => (p.1, ρ p.2)).toList = parts.toList.map fun p => (p.1, ρ p.2) := by simp
    rw [← hl] at hus
    simp only [execOp, ho, Sem.run_bind]
    rw [show (parts.map fun (i, x) => (i, ρ x)) = parts.map fun p => (p.1, ρ p.2) from rfl, run_build w t _ us hus]
    rfl
  unfold builtA at hb
  cases hit : P.info? t with
  | none => simp [hit] at hb
  | some it =>
    cases hu : P.underlying t with
    | none => simp [hit, hu] at hb
    | some d =>
      cases hz : it.zero with
      | none => cases d <;> simp [hit, hu, hz] at hb
      | some z =>
        cases d <;> try (simp [hit, hu] at hb; done)
        case array n e =>
          cases hie : P.info? e with
          | none => simp [hit, hu, hz, hie] at hb
          | some ie =>
            simp only [hit, hu, hz, hie] at hb
            split at hb
            · rename_i hk
              obtain ⟨cs', hf, rfl⟩ := Option.map_eq_some_iff.1 hb
              obtain ⟨us, h1, h2⟩ := fill_rel _ _ _ _ z.cells _ ((VR.imm _ _ (RT.absV z)).cr hk) hm hvv hf
              exact fin us (by unfold Program.built; simp only [hit, hu, hz, hie]; exact h1) (.agg_mk h2)
            · cases hb
        case struct fields =>
          cases hp : fields.toList.mapM (fun f => (P.info? f.type).map fun i => (f.offset, i.size)) with
          | none => simp [hit, hu, hz, hp] at hb
          | some places =>
            simp only [hit, hu, hz, hp] at hb
            split at hb
            · rename_i hk
              obtain ⟨cs', hf, rfl⟩ := Option.map_eq_some_iff.1 hb
              obtain ⟨us, h1, h2⟩ := fill_rel _ _ _ _ z.cells _ ((VR.imm _ _ (RT.absV z)).cr hk) hm hvv hf
              exact fin us (by unfold Program.built; simp only [hit, hu, hz, hp]; exact h1) (.agg_mk h2)
            · cases hb

def mkE (ag : Bool) (cs : List AV) : AV :=
  match ag, cs with
  | true, cs => .agg cs
  | false, [c] => c
  | false, _ => .unk

/-- A row of cells as elements. -/
def chunk (ag : Bool) (z : Nat) : Nat → List AV → List AV
  | 0, _ => []
  | n + 1, cs => mkE ag (cs.take z) :: chunk ag z n (cs.drop z)

theorem one_cells {c : AV} (h : c.one = true) : c.cells = [c] := by cases c <;> simp_all [AV.one, AV.cells]

theorem mkE_cells {ag : Bool} {cs : List AV} (h : ag = true ∨ cs.length = 1) (h1 : allOne cs = true) : (mkE ag cs).cells = cs := by
  cases ag with
  | true => rfl
  | false =>
    rcases h with h | h
    · cases h
    · match cs, h with
      | [c], _ => simp [allOne] at h1; simpa [mkE] using one_cells h1

theorem chunk_get {ag : Bool} {z : Nat} (hz : ag = true ∨ z = 1) : ∀ (n : Nat) (cs : List AV), n * z ≤ cs.length → allOne cs = true → ∀ (i : Nat) e, (chunk ag z n cs)[i]? = some e →
    e.cells = (cs.drop (i * z)).take z ∧ i < n := by
  intro n
  induction n with
  | zero => intro cs _ _ i e he; simp [chunk] at he
  | succ n ih =>
    intro cs hl h1 i e he
    have hl' : n * z + z ≤ cs.length := by rw [Nat.add_mul] at hl; omega
    cases i with
    | zero =>
      simp [chunk] at he; subst he
      refine ⟨?_, by omega⟩
      rw [mkE_cells]
      · simp
      · rcases hz with h | h
        · exact .inl h
        · right; simp; omega
      · simp only [allOne, List.all_eq_true] at h1 ⊢
        exact fun c hc => h1 c (List.mem_of_mem_take hc)
    | succ i =>
      simp [chunk] at he
      obtain ⟨h2, h3⟩ := ih (cs.drop z) (by simp; omega) (by simp only [allOne, List.all_eq_true] at h1 ⊢; exact fun c hc => h1 c (List.mem_of_mem_drop hc)) i e he
      refine ⟨?_, by omega⟩
      rw [h2, List.drop_drop, Nat.add_mul]
      congr 2; omega

theorem length_chunk {ag : Bool} {z : Nat} : ∀ (n : Nat) (cs : List AV), (chunk ag z n cs).length = n
  | 0, _ => rfl
  | n + 1, cs => by simp [chunk, length_chunk n]

theorem CR.chunk {cs : List AV} {us : List Value} (h : CR φ A w cs us) (h1 : allOne cs = true) {ag : Bool} {z n : Nat} (hz : ag = true ∨ z = 1) (hl : cs.length = n * z) :
    ∀ (i : Nat) e, (chunk ag z n cs)[i]? = some e → e.cells.length = z ∧ ∀ (j : Nat) c, e.cells[j]? = some c → c.one = true ∧ ∃ u, us[i * z + j]? = some u ∧ VR φ A w c u := by
  intro i e he
  obtain ⟨hc, hi⟩ := chunk_get hz n cs (by omega) h1 i e he
  have hle : i * z + z ≤ n * z := by have := Nat.mul_le_mul_right z hi; rw [Nat.succ_mul] at this; exact this
  refine ⟨by rw [hc]; simp; omega, fun j c hj => ?_⟩
  rw [hc, List.getElem?_take] at hj
  split at hj
  · rw [List.getElem?_drop] at hj
    have hlt := (List.getElem?_eq_some_iff.1 hj).1
    have hlu : i * z + j < us.length := by rw [h.1]; exact hlt
    exact ⟨List.all_eq_true.1 h1 c (List.mem_of_getElem? hj), us[i * z + j], by simp [hlu], h.2 _ c _ hj (by simp [hlu])⟩
  · cases hj

def norefE (es : List AV) : Bool := es.all fun e => norefL e.cells

theorem norefE_spec (es : List AV) : norefE es = true → Noref es := fun h e he c hc => List.all_eq_true.1 (List.all_eq_true.1 h e he) c hc

/-- The elements of a slice literal. -/
def litA (P : Program) (t : TypeId) (n : Nat) (parts : List (Nat × AV)) : Option (List AV × Nat) :=
  match P.underlying t with
  | some (.slice e) =>
    match P.info? e, tsz P e with
    | some ie, some (z, ag) =>
      match ie.zero with
      | some zv =>
        match (absV zv).known && Nat.beq (absV zv).cells.length z && Nat.ble (n * z) 16777216 && (ag || Nat.beq z 1) && Nat.blt 0 z with
        | true =>
          match fillA (fun i => some (i * z, z)) ((List.range (n * z)).map fun k => (absV zv).cells.getD (k % z) .unk) parts with
          | some cs => match allOne cs && Nat.beq cs.length (n * z) with
            | true => some (chunk ag z n cs, z)
            | false => none
          | none => none
        | false => none
      | none => none
    | _, _ => none
  | _ => none

theorem tsz_info {t : TypeId} {z : Nat} {ag : Bool} (h : tsz P t = some (z, ag)) : ∃ i, P.info? t = some i ∧ i.size = z := by
  unfold tsz at h
  split at h
  · rename_i i d hi hd; simp at h; exact ⟨i, hi, h.1⟩
  · cases h

theorem ok_buildSlice {o : Oper} {ev : Operand → AV} {h : Hp} {nb : Nat} {t : TypeId} {n z : Nat} {parts : Array (Nat × Operand)} {es : List AV}
    (ho : o.op = .buildSlice t n parts) (hb : litA P t n (parts.toList.map fun p => (p.1, ev p.2)) = some (es, z)) :
    OpOK P o ev h nb { v := .sl nb 0 n, new := [{ es, z, flat := norefE es }] } := by
  refine .alloc (norefE_spec es) fun φ A w ρ hv _ => ?_
  unfold litA at hb
  split at hb
  case h_2 => cases hb
  rename_i e hu
  split at hb
  case h_2 => cases hb
  rename_i ie z' ag hi hts
  split at hb
  case h_2 => cases hb
  rename_i zv hz
  split at hb
  case h_2 => cases hb
  rename_i hc
  split at hb
  case h_2 => cases hb
  rename_i cs hf
  split at hb
  case h_2 => cases hb
  rename_i hone
  simp only [Option.some.injEq, Prod.mk.injEq] at hb
  obtain ⟨rfl, rfl⟩ := hb
  simp only [Bool.and_eq_true, Bool.or_eq_true] at hc hone
  obtain ⟨⟨⟨⟨hk, hzl⟩, hle⟩, hag⟩, hpos⟩ := hc
  have hzl := Nat.eq_of_beq_eq_true hzl
  have hle := Nat.le_of_ble_eq_true hle
  have hpos : 0 < z' := by have := hpos; simp only [Nat.blt] at this; exact Nat.le_of_ble_eq_true this
  have hag : ag = true ∨ z' = 1 := hag.imp id Nat.eq_of_beq_eq_true
  have hlen := Nat.eq_of_beq_eq_true hone.2
  obtain ⟨i', hi', hsz⟩ := tsz_info hts
  rw [hi] at hi'; cases hi'
  have hcr := (VR.imm (φ := φ) (A := A) (w := w) _ _ (RT.absV zv)).cr hk
  have hzs : zv.cells.size = z' := by have := hcr.1; simp at this; omega
  have hinit : CR φ A w ((List.range (n * z')).map fun k => (absV zv).cells.getD (k % z') .unk) (((Array.range (n * z')).map (zv.cells[· % zv.cells.size]!)).toList) := by
    refine ⟨by simp, fun k c u hc hu => ?_⟩
    simp only [List.getElem?_map, Option.map_eq_some_iff, Array.toList_map, Array.toList_range] at hc hu
    obtain ⟨a, ha, rfl⟩ := hc
    obtain ⟨b, hb, rfl⟩ := hu
    rw [ha] at hb; cases hb
    have hmod : a % z' < z' := Nat.mod_lt _ hpos
    rw [hzs]
    refine hcr.2 (a % z') _ _ ?_ ?_
    · simp [List.getD, List.getElem?_eq_getElem (show a % z' < (absV zv).cells.length by omega)]
    · simp [hzs, hmod]
  have hm : (parts.toList.map fun p => (p.1, ev p.2)).map (·.1) = (parts.toList.map fun p => (p.1, ρ p.2)).map (·.1) := by simp
  have hvv : ∀ (k : Nat) x y, (parts.toList.map fun p => (p.1, ev p.2))[k]? = some x → (parts.toList.map fun p => (p.1, ρ p.2))[k]? = some y → VR φ A w x.2 y.2 := by
    intro k x y hx hy
    simp only [List.getElem?_map, Option.map_eq_some_iff] at hx hy
    obtain ⟨p, hp, rfl⟩ := hx
    obtain ⟨q, hq, rfl⟩ := hy
    rw [hp] at hq; cases hq
    exact hv p.2
  obtain ⟨us, h1, h2⟩ := fill_rel _ _ _ _ _ _ hinit hm hvv hf
  refine ⟨us.toList, e, .slice (some ⟨w.heap.size, 0, none⟩) n n, ?_, ?_, ?_, fun φ' A' w' hφ hr => ?_⟩
  · by_cases hn0 : n = 0
    · subst hn0
      have h1' : Instr.fill (fun i => some (i * z', z')) #[] (parts.toList.map fun p => (p.1, ρ p.2)) = some us := by have e0 : (Array.range 0).map (fun x => zv.cells[x % zv.cells.size]!) = #[] := Array.eq_empty_of_size_eq_zero (by simp); rw [← e0]; simpa using h1
      simp [execOp, ho, Instr.buildSlice, run_underlying hu, sizeOf, typeInfo, hi, hsz, newRow]
      have e1 : (Array.range 0).map (fun _ => (default : Value)) = #[] := Array.eq_empty_of_size_eq_zero (by simp)
      rw [e1]
      simp [h1']
    · have hnz : ¬ (n * z' = 0) := by intro h0; rcases Nat.mul_eq_zero.1 h0 with h | h <;> omega
      have hp0 : ¬ (16777216 < n * z') := by omega
      simp [execOp, ho, Instr.buildSlice, run_underlying hu, sizeOf, typeInfo, zeroValue, hi, hz, hsz, newRow, hp0, hnz]
      have h1' : Instr.fill (fun i => some (i * z', z')) (Array.map (fun x => zv.cells[x % zv.cells.size]!) (Array.range (n * z'))) (parts.toList.map fun p => (p.1, ρ p.2)) = some us := h1
      simp [h1']
  · rw [length_chunk, h2.1, hlen]; exact Nat.le_refl _
  · exact h2.chunk hone.1 hag hlen
  · have := VR.sl (φ := φ') (A := A') (w := w') nb 0 n w.heap.size z' n hφ (Nat.le_refl _) (by rw [Nat.zero_add]; refine Nat.le_trans ?_ hr; rw [h2.1, hlen]; exact Nat.le_refl _)
    simpa using this

end Go.AX
